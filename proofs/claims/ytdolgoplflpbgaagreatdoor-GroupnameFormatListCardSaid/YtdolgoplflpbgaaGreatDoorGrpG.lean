/- GroupnameParseList and GroupnameFormatList answer true for every input. -/
import Derived.Test.YtdolgoplflpbgaaGreatDoorGrpF
namespace Go.Proofs.YtdolgoplflpbgaaGreatDoor
open Go.RowKit Go.Sort

theorem row_max {w : World} {base n sz : Nat} {v : Value} {e : TypeId} {xs : List Value} (h : w.ownsRow base e sz v n xs) : n ≤ maxLen := by
  rcases h.2 with ⟨_, h0⟩ | ⟨g, cap, cur, _, _, _, h1, h2, _⟩
  · rw [h0]; exact Nat.zero_le _
  · exact Nat.le_trans h1 h2
set_option maxRecDepth 100000
attribute [local irreducible] K KS KLeft KRound J OV EV EU Blk wpList Code.wp bodyPost Exit.then Exit.inBlock Round Left Hid JS wpStill wpHeld Calls
attribute [local irreducible] joinB checkG compB piecesB listErr
theorem parseList_any (s : ByteArray) (m : Int) (r : World) (hs : s.size < 4294967281) (hm : r.cell? ⟨0, 0, none⟩ = some (.int .i64 m)) :
    Calls Tryz.prog 29 #[.string s] r fun e w' => ∃ v, e = .returned (.tuple #[v, .int .i64 ((parseListG s).2 : Nat)]) ∧ True ∧ Sat r [row false v (parseListG s).1.length ((parseListG s).1.map Value.string) 9 1] w' := by
  refine k_enter (N := 11) Tryz.func29 rfl rfl rfl ?_
  unfold parseListG
  by_cases h0 : s = ⟨#[]⟩
  · rw [if_pos h0]
    refine walkB ?_
    exact k_ret2 rfl rfl rfl fun w hw => ⟨_, rfl, trivial, sat_nil hw⟩
  rw [if_neg h0]
  have hsz : ∀ x ∈ piecesB commaB s, x.size ≤ s.size := fun x hx => by
    have h1 : x.data.toList ∈ (piecesB commaB s).map (·.data.toList) := List.mem_map.2 ⟨x, hx, rfl⟩
    rw [show commaB = ⟨#[44]⟩ from rfl, pieces_data] at h1
    have := splitK_le _ _ _ h1
    rw [len_data, len_data] at this
    exact this
  have hpl : (piecesB commaB s).length ≤ s.size + 1 := by
    rw [piecesB_len commaB s (Nat.le_refl _)]
    have := Lib.countB_le commaB (Nat.le_refl _) s.size s (Nat.le_refl _)
    omega
  refine walkB ?_
  refine k_callS (σ := Nat) (val := fun b => .slice (some ⟨b, 0, none⟩) (piecesB commaB s).length (piecesB commaB s).length) (own := fun b => [row false (.slice (some ⟨b, 0, none⟩) (piecesB commaB s).length (piecesB commaB s).length) (piecesB commaB s).length ((piecesB commaB s).map Value.string) 9 1]) (ok := fun _ => True) (fun _ => rfl) (by kernel_rfl) rfl rfl (fun w hw => (split_any s commaB m w hs (cell_ext (hw.below rfl) hm) (Nat.le_refl _)).mono fun e w' ⟨b, h1, h2, h3, h4⟩ => ⟨b, h1, trivial, sat_of_blk h2 h3 h4 (by unfold maxLen; omega)⟩) ?_
  intro b _
  refine walkB ?_
  refine k_callb (by kernel_rfl) rfl rfl (fun w hw => list_any _ (piecesB commaB s) m w (by exact strs_of_row (hw.row 0 rfl)) (fun x hx => by have := hsz x hx; omega) (by omega) (cell_ext (hw.below rfl) hm)) ?_
  by_cases he : listErr (piecesB commaB s) = 0
  · rw [if_pos he, if_pos he, he]
    refine walkB ?_
    exact k_ret2 rfl rfl rfl fun w hw => ⟨_, rfl, trivial, hw⟩
  · rw [if_neg he, if_neg he]
    refine walkB ?_
    exact k_ret2 rfl rfl rfl fun w hw => ⟨_, rfl, trivial, sat_nil (hw.sub (.drop rfl .nil))⟩
theorem formatList_any (v : Value) (l : List ByteArray) (m : Int) (r : World) (hv : StrsAt r v l) (hl : ∀ s ∈ l, s.size ≤ 9223372036854775807) (hn : l.length ≤ 140737488355328) (hs : (joinB commaB l).size ≤ 140737488355328) (hm : r.cell? ⟨0, 0, none⟩ = some (.int .i64 m)) :
    Calls Tryz.prog 31 #[v] r fun e w' => e = .returned (.tuple #[.string (formatListG l).1, .int .i64 ((formatListG l).2 : Nat)]) ∧ Below r.heap.size r w' := by
  have hv0 := hv
  obtain ⟨ea, cap, rfl, ⟨hcap, _⟩, hc⟩ := hv
  refine k_enter (N := 17) Tryz.func31 rfl rfl rfl ?_
  unfold formatListG
  by_cases h0 : l = []
  · have hl0 : l.length = 0 := by rw [h0]; rfl
    rw [if_pos h0]
    refine walkB ?_
    exact k_ret2 rfl rfl rfl fun w hw => ⟨rfl, hw.below rfl⟩
  rw [if_neg h0]
  have hl0 : l.length ≠ 0 := fun h => h0 (List.eq_nil_of_length_eq_zero h)
  refine walkB ?_
  refine k_callb (by kernel_rfl) rfl rfl (fun w hw => list_any _ l m w (hv0.ext (hw.below rfl)) hl (by omega) (cell_ext (hw.below rfl) hm)) ?_
  by_cases he : listErr l = 0
  · rw [if_pos he, if_pos he, he]
    refine walkB ?_
    refine k_callb (by kernel_rfl) rfl rfl (fun w hw => joinS_any _ l commaB w (hv0.ext (hw.below rfl)) hn hs) ?_
    refine walkB ?_
    exact k_ret2 rfl rfl rfl fun w hw => ⟨rfl, hw.below rfl⟩
  · rw [if_neg he, if_neg he]
    refine walkB ?_
    refine k_callb (v := .string ⟨#[]⟩) (by kernel_rfl) rfl rfl (fun w hw => by have := joinS_any (.slice none 0 0) [] commaB w ⟨none, 0, rfl, ⟨Nat.le_refl _, fun a h => by cases h⟩, fun i s h => by cases h⟩ (by decide) (by rw [joinB_nil]; decide); rw [joinB_nil] at this; exact this) ?_
    refine walkB ?_
    exact k_ret2 rfl rfl rfl fun w hw => ⟨rfl, hw.below rfl⟩
theorem lawParse_any (s : ByteArray) (m : Int) (r : World) (hm : r.cell? ⟨0, 0, none⟩ = some (.int .i64 m)) : Calls Tryz.prog 7 #[.string s] r fun e w' => e = .returned (.bool true) ∧ Below r.heap.size r w' := by
  refine k_enter (N := 53) Tryz.func7 rfl rfl rfl ?_
  refine walkB ?_
  refine k_callb (by kernel_rfl) rfl rfl (fun w hw => known_any m w (cell_ext (hw.below rfl) hm)) ?_
  by_cases h2 : 2000 < s.size
  · refine walkB ?_
    refine k_callb (by kernel_rfl) rfl rfl (fun w hw => known_any m w (cell_ext (hw.below rfl) hm)) ?_
    refine walkB ?_
    exact k_ret1 rfl rfl fun w hw => ⟨rfl, hw.below rfl⟩
  have hsz : ∀ x ∈ piecesB commaB s, x.size ≤ s.size := fun x hx => by
    have h1 : x.data.toList ∈ (piecesB commaB s).map (·.data.toList) := List.mem_map.2 ⟨x, hx, rfl⟩
    rw [show commaB = ⟨#[44]⟩ from rfl, pieces_data] at h1
    have := splitK_le _ _ _ h1
    rw [len_data, len_data] at this
    exact this
  have hpl : (piecesB commaB s).length ≤ s.size + 1 := by
    rw [piecesB_len commaB s (Nat.le_refl _)]
    have := Lib.countB_le commaB (Nat.le_refl _) s.size s (Nat.le_refl _)
    omega
  have hj : joinB commaB (piecesB commaB s) = s := joinB_pieces 44 s
  have hne : piecesB commaB s ≠ [] := pieces_ne 44 s
  have hsm := listErr_small (piecesB commaB s)
  refine walkB ?_
  refine k_callS (ok := fun _ => True) (own := fun v => [row false v (parseListG s).1.length ((parseListG s).1.map Value.string) 9 1]) (val := fun v => .tuple #[v, .int .i64 ((parseListG s).2 : Nat)]) (fun _ => rfl) (by kernel_rfl) rfl rfl (fun w hw => parseList_any s m w (by omega) (cell_ext (hw.below rfl) hm)) ?_
  intro v1 _
  unfold parseListG
  refine walkB ?_
  refine k_callr (by kernel_rfl) rfl rfl (fun w hw => (refParts_any s 44 w (by omega)).mono fun e w' ⟨v, h1, _, h3⟩ => ⟨v, h1, own_up h3, h3.below rfl⟩) ?_
  intro v2
  rw [show (⟨#[44]⟩ : ByteArray) = commaB from rfl]
  refine walkB ?_
  refine k_callb (by kernel_rfl) rfl rfl (fun w hw => refCheckList_any v2 (piecesB commaB s) w (by exact strs_of_row (hw.row 0 rfl)) (fun x hx => by have := hsz x hx; omega) (by omega)) ?_
  by_cases h0 : s = ⟨#[]⟩
  · rw [if_pos h0]
    refine k_rowslice 1 rfl ?_
    rintro ⟨ea1, cap1, rfl⟩
    refine walkB ?_
    exact k_ret1 rfl rfl fun w hw => ⟨rfl, hw.below rfl⟩
  rw [if_neg h0]
  by_cases he : listErr (piecesB commaB s) = 0
  · rw [if_pos he, he]
    refine walkB ?_
    refine k_callb (by kernel_rfl) rfl rfl (fun w hw => formatList_any v1 (piecesB commaB s) m w (by exact strs_of_row (hw.row 1 rfl)) (fun x hx => by have := hsz x hx; omega) (by omega) (by rw [hj]; omega) (cell_ext (hw.below rfl) hm)) ?_
    unfold formatListG
    rw [if_neg hne, if_pos he, hj]
    refine walkB ?_
    refine k_callb (v := .bool true) (by kernel_rfl) rfl rfl (fun w hw => (same_any v1 v2 (piecesB commaB s) (piecesB commaB s) w (by exact strs_of_row (hw.row 1 rfl)) (by exact strs_of_row (hw.row 0 rfl)) (by omega) (by omega)).mono fun e w' h => ⟨by rw [h.1, decide_eq_true rfl], h.2⟩) ?_
    refine walkB ?_
    exact k_ret1 rfl rfl fun w hw => ⟨by simp, hw.below rfl⟩
  · rw [if_neg he]
    refine k_rowslice 1 rfl ?_
    rintro ⟨ea1, cap1, rfl⟩
    refine walkB ?_
    exact k_ret1 rfl rfl fun w hw => ⟨rfl, hw.below rfl⟩
theorem lawFormat_any (v : Value) (l : List ByteArray) (m : Int) (r : World) (hv : StrsAt r v l) (hn : l.length ≤ 9223372036854775807) (hm : r.cell? ⟨0, 0, none⟩ = some (.int .i64 m)) : Calls Tryz.prog 8 #[v] r fun e w' => e = .returned (.bool true) ∧ Below r.heap.size r w' := by
  have hv0 := hv
  obtain ⟨ea, ca, rfl, _, hca⟩ := hv
  refine k_enter (N := 51) Tryz.func8 rfl rfl rfl ?_
  refine walkB ?_
  refine k_callb (by kernel_rfl) rfl rfl (fun w hw => known_any m w (cell_ext (hw.below rfl) hm)) ?_
  refine walkB ?_
  refine k_callb (v := .bool (decide (l.length ≤ 60) && l.all fun s => decide (s.size ≤ 120))) (by kernel_rfl) rfl rfl (fun w hw => short_any _ l w (hv0.ext (hw.below rfl)) hn) ?_
  cases hs : decide (l.length ≤ 60) && l.all fun s => decide (s.size ≤ 120) with
  | false =>
    refine walkB ?_
    refine k_callb (by kernel_rfl) rfl rfl (fun w hw => known_any m w (cell_ext (hw.below rfl) hm)) ?_
    refine walkB ?_
    exact k_ret1 rfl rfl fun w hw => ⟨rfl, hw.below rfl⟩
  | true =>
    simp only [Bool.and_eq_true, decide_eq_true_eq, List.all_eq_true] at hs
    obtain ⟨h60, h120⟩ := hs
    have hsz : (joinB commaB l).size ≤ 1000000000 := by
      have h1 := joinB_size commaB l 120 h120
      have h2 : l.length * (120 + commaB.size) ≤ 60 * 121 := Nat.mul_le_mul h60 (Nat.le_refl _)
      omega
    have hsm := listErr_small l
    have hfp := format_parse (l := l)
    refine walkB ?_
    refine k_callb (by kernel_rfl) rfl rfl (fun w hw => formatList_any _ l m w (hv0.ext (hw.below rfl)) (fun s hs => by have := h120 s hs; omega) (by omega) (by omega) (cell_ext (hw.below rfl) hm)) ?_
    refine walkB ?_
    refine k_callb (by kernel_rfl) rfl rfl (fun w hw => refCheckList_any _ l w (hv0.ext (hw.below rfl)) (fun s hs => by have := h120 s hs; omega) hn) ?_
    unfold formatListG
    by_cases h0 : l = []
    · have hl0 : l.length = 0 := by rw [h0]; rfl
      rw [if_pos h0]
      refine walkB ?_
      exact k_ret1 rfl rfl fun w hw => ⟨rfl, hw.below rfl⟩
    have hl0 : l.length ≠ 0 := fun h => h0 (List.eq_nil_of_length_eq_zero h)
    rw [if_neg h0]
    by_cases he : listErr l = 0
    · rw [if_pos he, he]
      have hfp1 := hfp h0 he
      refine walkB ?_
      refine k_callS (ok := fun _ => True) (own := fun v => [row false v l.length (l.map Value.string) 9 1]) (val := fun v => .tuple #[v, .int .i64 0]) (fun _ => rfl) (by kernel_rfl) rfl rfl (fun w hw => by
        have := parseList_any (joinB commaB l) m w (by omega) (cell_ext (hw.below rfl) hm)
        rw [hfp1] at this
        exact this) ?_
      intro v1 _
      refine walkB ?_
      refine k_callb (by kernel_rfl) rfl rfl (fun w hw => refText_any _ l commaB w (hv0.ext (hw.below rfl)) hn (by omega)) ?_
      refine walkB ?_
      rw [decide_eq_true (rfl : joinB commaB l = joinB commaB l)]
      refine walkB ?_
      refine k_callb (v := .bool true) (by kernel_rfl) rfl rfl (fun w hw => (same_any v1 _ l l w (by exact strs_of_row (hw.row 0 rfl)) (hv0.ext (hw.below rfl)) hn hn).mono fun e w' h => ⟨by rw [h.1, decide_eq_true rfl], h.2⟩) ?_
      refine walkB ?_
      exact k_ret1 rfl rfl fun w hw => ⟨rfl, hw.below rfl⟩
    · rw [if_neg he]
      refine walkB ?_
      exact k_ret1 rfl rfl fun w hw => ⟨rfl, hw.below rfl⟩
end Go.Proofs.YtdolgoplflpbgaaGreatDoor
