/- GroupnameSort and GroupnameChildren answer true for every input. -/
import Derived.Test.YtdolgoplflpbgaaDoorGrpZ
namespace Go.Proofs.YtdolgoplflpbgaaDoor
open Go.RowKit Go.Sort

/-! Plain: the turned list. -/
def turnL (l : List ByteArray) (t k : Nat) : List ByteArray := (List.range k).map fun i => l.getD ((l.length - 1 - i + t) % l.length) ⟨#[]⟩
theorem turnL_succ (l : List ByteArray) (t k : Nat) : turnL l t (k + 1) = turnL l t k ++ [l.getD ((l.length - 1 - k + t) % l.length) ⟨#[]⟩] := by
  unfold turnL; rw [List.range_succ, List.map_append]; rfl
theorem turnL_zero (l : List ByteArray) (t : Nat) : turnL l t 0 = [] := rfl
theorem turnL_len (l : List ByteArray) (t k : Nat) : (turnL l t k).length = k := by simp [turnL]
theorem turnL_mem (l : List ByteArray) (t : Nat) (x : ByteArray) : x ∈ turnL l t l.length ↔ x ∈ l := by
  unfold turnL
  rw [List.mem_map]
  constructor
  · rintro ⟨i, hi, rfl⟩
    have hi' := List.mem_range.1 hi
    have hlt : (l.length - 1 - i + t) % l.length < l.length := Nat.mod_lt _ (by omega)
    rw [List.getD_eq_getElem?_getD, List.getElem?_eq_getElem hlt]
    exact List.getElem_mem hlt
  · intro hx
    obtain ⟨j, hj, rfl⟩ := List.mem_iff_getElem.1 hx
    have hn : 0 < l.length := by omega
    refine ⟨(l.length - 1 + t - j) % l.length, List.mem_range.2 (Nat.mod_lt _ hn), ?_⟩
    have e : (l.length - 1 - (l.length - 1 + t - j) % l.length + t) % l.length = j := by
      have h1 := Nat.div_add_mod (l.length - 1 + t - j) l.length
      have h2 := Nat.mod_lt (l.length - 1 + t - j) hn
      generalize (l.length - 1 + t - j) % l.length = i at h1 h2
      generalize (l.length - 1 + t - j) / l.length = q at h1
      have h3 : l.length - 1 - i + t = j + l.length * q := by omega
      rw [h3, Nat.add_mul_mod_self_left, Nat.mod_eq_of_lt hj]
    rw [e, List.getD_eq_getElem?_getD, List.getElem?_eq_getElem hj]; rfl
theorem errG_iff_mem {l m : List ByteArray} (hlen : l.length = m.length) (h : ∀ x, x ∈ l ↔ x ∈ m) : sortErr l = 0 ↔ sortErr m = 0 := by
  unfold sortErr
  rw [hlen]
  split
  · exact Iff.rfl
  · rw [errG_zero, errG_zero]
    exact ⟨fun h1 s hs => h1 s ((h s).2 hs), fun h1 s hs => h1 s ((h s).1 hs)⟩
theorem sortOf_mem {l m a b : List ByteArray} (hlen : l.length = m.length) (h : ∀ x, x ∈ l ↔ x ∈ m) (h1 : SortOf l a) (h2 : SortOf m b) : a = b := by
  refine sortOf_uniq h1 ?_
  unfold SortOf at h2 ⊢
  by_cases h0 : sortErr m = 0
  · rw [if_pos h0] at h2
    rw [if_pos ((errG_iff_mem hlen h).2 h0)]
    exact ⟨h2.1, fun x => (h2.2.1 x).trans (h x).symm, by rw [hlen]; exact h2.2.2⟩
  · rw [if_neg h0] at h2
    rw [if_neg (fun h3 => h0 ((errG_iff_mem hlen h).1 h3))]
    exact h2
theorem sortOf_len {l m : List ByteArray} (h : SortOf l m) : m.length ≤ l.length := by
  unfold SortOf at h
  split at h
  · exact h.2.2
  · rw [h]; exact Nat.zero_le _
theorem sortErr_small (l : List ByteArray) : sortErr l ≤ 12 := by
  have h : ∀ l : List ByteArray, errG l ≤ 12 := by
    intro l
    induction l with
    | nil => simp [errG]
    | cons s l ih =>
      rw [errG]
      split
      · exact ih
      · unfold checkG; repeat' split
        all_goals omega
  unfold sortErr
  split
  · omega
  · exact h l
theorem childErr_small (l : List ByteArray) (h : ByteArray) : childErr l h ≤ 12 := by
  have h1 := sortErr_small l
  unfold childErr
  split
  · exact h1
  · split
    · exact h1
    · unfold checkG; repeat' split
      all_goals omega
theorem row_max {w : World} {base n sz : Nat} {v : Value} {e : TypeId} {xs : List Value} (h : w.ownsRow base e sz v n xs) : n ≤ maxLen := by
  rcases h.2 with ⟨_, h0⟩ | ⟨g, cap, cur, _, _, _, h1, h2, _⟩
  · rw [h0]; exact Nat.zero_le _
  · exact Nat.le_trans h1 h2
instance : TIntK Tryd.prog 5 .u8 := ⟨Tryd.underlying5⟩
instance : TIntK Tryd.prog 3 .i64 := ⟨Tryd.underlying3⟩
set_option maxRecDepth 100000
attribute [local irreducible] K KS KLeft KRound J OV EV EU Blk wpList Code.wp bodyPost Exit.then Exit.inBlock Round Left Hid JS wpStill wpHeld Calls
attribute [local irreducible] compareG piecesB errG checkG UpG joinB hasB restB firstB sortErr childErr turnL
theorem lawChildren_any (v : Value) (l : List ByteArray) (h : ByteArray) (m : Int) (r : World) (hv : StrsAt r v l) (hn : l.length ≤ 9223372036854775807) (hm : r.cell? ⟨0, 0, none⟩ = some (.int .i64 m)) : Calls Tryd.prog 5 #[v, .string h] r fun e w' => e = .returned (.bool true) ∧ Below r.heap.size r w' := by
  have hv0 := hv
  obtain ⟨ea, ca, rfl, _, hca⟩ := hv
  refine k_enter (N := 42) Tryd.func5 rfl rfl rfl ?_
  refine walkB ?_
  refine k_callb (by kernel_rfl) rfl rfl (fun w hw => known_any m w (cell_ext (hw.below rfl) hm)) ?_
  refine walkB ?_
  refine k_callb (v := .bool (decide (l.length ≤ 60) && l.all fun s => decide (s.size ≤ 120))) (by kernel_rfl) rfl rfl (fun w hw => short_any _ l w (hv0.ext (hw.below rfl)) hn) ?_
  cases hs : decide (l.length ≤ 60) && l.all fun s => decide (s.size ≤ 120) with
  | false =>
    refine walkB ?_
    refine k_callb (by kernel_rfl) rfl rfl (fun w hw => known_any m w (cell_ext (hw.below rfl) hm)) ?_
    refine walkB ?_
    exact k_ret1 rfl rfl fun w hw => ⟨rfl, hw.below rfl⟩
  | true =>
    simp only [Bool.and_eq_true, decide_eq_true_eq, List.all_eq_true] at hs
    obtain ⟨h60, h120⟩ := hs
    by_cases hh : 120 < h.size
    · refine walkB ?_
      refine k_callb (by kernel_rfl) rfl rfl (fun w hw => known_any m w (cell_ext (hw.below rfl) hm)) ?_
      refine walkB ?_
      exact k_ret1 rfl rfl fun w hw => ⟨rfl, hw.below rfl⟩
    have hce := childErr_small l h
    refine walkB ?_
    refine k_callS (σ := Value × List ByteArray) (ok := fun s => ChildOf l h s.2) (own := fun s => [row false s.1 s.2.length (s.2.map Value.string) 9 1]) (val := fun s => .tuple #[s.1, .int .i64 (childErr l h : Nat)]) (fun _ => rfl) (by kernel_rfl) rfl rfl (fun w hw => children_any _ l h m w (hv0.ext (hw.below rfl)) (fun s hs => by have := h120 s hs; omega) hn (by omega) (cell_ext (hw.below rfl) hm)) ?_
    rintro ⟨av, a⟩ ha
    dsimp only at ha ⊢
    refine walkB ?_
    refine k_callS (σ := Value × List ByteArray) (ok := fun s => ChildOf l h s.2) (own := fun s => [row false s.1 s.2.length (s.2.map Value.string) 9 1]) (val := fun s => .tuple #[s.1, .int .i64 (childErr l h : Nat)]) (fun _ => rfl) (by kernel_rfl) rfl rfl (fun w hw => refChildren_any _ l h w (hv0.ext (hw.below rfl)) (fun s hs => by have := h120 s hs; omega) hn (by omega)) ?_
    rintro ⟨bv, b⟩ hb
    dsimp only at hb ⊢
    have hab := childOf_uniq ha hb
    subst hab
    refine walkB ?_
    refine k_callb (v := .bool true) (by kernel_rfl) rfl rfl (fun w hw => (same_any av bv a a w (by exact strs_of_row (hw.row 1 rfl)) (by exact strs_of_row (hw.row 0 rfl)) (Nat.le_trans (row_max (hw.row 0 rfl)) (by decide)) (Nat.le_trans (row_max (hw.row 0 rfl)) (by decide))).mono fun e w' h => ⟨by rw [h.1, decide_eq_true rfl], h.2⟩) ?_
    refine walkB ?_
    exact k_ret1 rfl rfl fun w hw => ⟨rfl, hw.below rfl⟩
theorem lawSort_any (v : Value) (l : List ByteArray) (t : Int) (m : Int) (r : World) (hv : StrsAt r v l) (hz : ∀ ea n cap, v = .slice ea n cap → ea = none → cap = 0) (ht : 0 ≤ t ∧ t ≤ 255) (hn : l.length ≤ 9223372036854775807) (hm : r.cell? ⟨0, 0, none⟩ = some (.int .i64 m)) : Calls Tryd.prog 4 #[v, .int .u8 t] r fun e w' => e = .returned (.bool true) ∧ Below r.heap.size r w' := by
  have hv0 := hv
  obtain ⟨ea, ca, rfl, _, hca⟩ := hv
  have hI : RowIs r ea l.length ca 1 (l.map Value.string) := rowIs_strs hv0 (hz _ _ _ rfl)
  refine k_enter (N := 88) Tryd.func4 rfl rfl rfl ?_
  refine walkB ?_
  refine k_callb (by kernel_rfl) rfl rfl (fun w hw => known_any m w (cell_ext (hw.below rfl) hm)) ?_
  refine walkB ?_
  refine k_callb (v := .bool (decide (l.length ≤ 60) && l.all fun s => decide (s.size ≤ 120))) (by kernel_rfl) rfl rfl (fun w hw => short_any _ l w (hv0.ext (hw.below rfl)) hn) ?_
  cases hs : decide (l.length ≤ 60) && l.all fun s => decide (s.size ≤ 120) with
  | false =>
    refine walkB ?_
    refine k_callb (by kernel_rfl) rfl rfl (fun w hw => known_any m w (cell_ext (hw.below rfl) hm)) ?_
    refine walkB ?_
    exact k_ret1 rfl rfl fun w hw => ⟨rfl, hw.below rfl⟩
  | true =>
    simp only [Bool.and_eq_true, decide_eq_true_eq, List.all_eq_true] at hs
    obtain ⟨h60, h120⟩ := hs
    refine walkB ?_
    refine k_nilrow 9 1 ?_
    refine k_loop (σ := Nat × Value) (fun s => [(0, .slice ea l.length ca), (1, .int .u8 t), (5, s.2), (6, .int .i64 s.1)]) (fun s => [row false s.2 s.1 ((turnL l t.toNat s.1).map Value.string) 9 1]) (fun s => s.1 ≤ l.length) (fun s => l.length - s.1) (0, .slice none 0 0) (by repeat (first | exact Sub.nil | refine Sub.cons rfl ?_)) (by rw [show turnL l t.toNat 0 = [] from turnL_zero l _]; exact (by repeat (first | exact SubO.nil | refine SubO.keep ?_ | refine SubO.drop rfl ?_))) (Nat.zero_le _) ?_
    rintro ⟨k, iv⟩ hk
    dsimp only at hk ⊢
    by_cases hlt : k < l.length
    · have hlt2 : (l.length - 1 - k + t.toNat) % l.length < l.length := Nat.mod_lt _ (by omega)
      have hge : l.getD ((l.length - 1 - k + t.toNat) % l.length) ⟨#[]⟩ = l[(l.length - 1 - k + t.toNat) % l.length] := by rw [List.getD_eq_getElem?_getD, List.getElem?_eq_getElem hlt2]; rfl
      obtain ⟨b, o, rfl, hcell⟩ := hca _ l[(l.length - 1 - k + t.toNat) % l.length] (List.getElem?_eq_getElem hlt2)
      have hsucc := turnL_succ l t.toNat k
      rw [hge] at hsucc
      generalize l[(l.length - 1 - k + t.toNat) % l.length] = x at hcell hsucc
      have hie : (((l.length - 1 : Nat) : Int) - k + t) % l.length = (((l.length - 1 - k + t.toNat) % l.length : Nat) : Int) := by
        rw [show ((l.length - 1 : Nat) : Int) - k + t = ((l.length - 1 - k + t.toNat : Nat) : Int) by omega]; rfl
      refine walkB ?_
      refine k_op rfl (fun _ _ => ov_indexAddr1o rfl rfl _ hie hlt2) ?_
      generalize (l.length - 1 - k + t.toNat) % l.length = j at hcell
      refine walkB ?_
      refine k_app0 rfl rfl rfl (fun u => rfl) rfl rfl rfl rfl rfl rfl rfl (by omega) (by unfold maxLen; omega) ?_
      intro v' u
      refine walkB ?_
      refine k_round (k + 1, v') (by repeat (first | exact Sub.nil | refine Sub.cons rfl ?_)) (by dsimp only; rw [hsucc, List.map_append]; exact (by repeat (first | exact SubO.nil | refine SubO.keep ?_ | refine SubO.drop rfl ?_))) (by dsimp only; omega) (by dsimp only; omega)
    · have hkl : k = l.length := by omega
      subst hkl
      have htm := turnL_mem l t.toNat
      have htl := turnL_len l t.toNat l.length
      have hse := errG_iff_mem htl htm
      have hun := fun a b => sortOf_mem (a := a) (b := b) htl htm
      have hts : ∀ s ∈ turnL l t.toNat l.length, s.size ≤ 120 := fun s hs => h120 s ((htm s).1 hs)
      generalize turnL l t.toNat l.length = q at htm htl hse hun hts
      have hq : iv = iv := rfl
      refine walkB ?_
      refine k_lit0 rfl ?_
      intro b0
      refine walkB ?_
      refine k_appRowG (A := []) (m := l.length) (ys := l.map Value.string) rfl rfl rfl (fun w hw => by
        have := (hI.ext (hw.below rfl)).take l.length (Nat.le_refl _)
        rw [pieceV_zero, Nat.mul_one, List.take_of_length_le (by simp)] at this
        exact this) (by simp) (by rw [List.all_map]; exact List.all_eq_true.2 fun _ _ => rfl) rfl rfl (by omega) (by unfold maxLen; omega) ?_
      intro bv
      rw [Nat.zero_add l.length, List.nil_append]
      have hsn := sortErr_small l
      have hsq := sortErr_small q
      refine walkB ?_
      refine k_callS (σ := Value × List ByteArray) (ok := fun s => SortOf l s.2) (own := fun s => [row false s.1 s.2.length (s.2.map Value.string) 9 1]) (val := fun s => .tuple #[s.1, .int .i64 (sortErr l : Nat)]) (fun _ => rfl) (by kernel_rfl) rfl rfl (fun w hw => sort_any _ l m w (hv0.ext (hw.below rfl)) (fun s hs => by have := h120 s hs; omega) hn (cell_ext (hw.below rfl) hm)) ?_
      rintro ⟨av, a⟩ ha
      dsimp only at ha ⊢
      refine walkB ?_
      refine k_callS (σ := Value × List ByteArray) (ok := fun s => SortOf q s.2) (own := fun s => [row false s.1 s.2.length (s.2.map Value.string) 9 1]) (val := fun s => .tuple #[s.1, .int .i64 (sortErr q : Nat)]) (fun _ => rfl) (by kernel_rfl) rfl rfl (fun w hw => sort_any _ q m w (by have := hw.row 2 rfl; rw [← htl] at this; exact strs_of_row this) (fun s hs => by have := hts s hs; omega) (by omega) (cell_ext (hw.below rfl) hm)) ?_
      rintro ⟨cv, c⟩ hc
      dsimp only at hc ⊢
      have hca2 : c = a := hun c a hc ha
      subst hca2
      refine walkB ?_
      refine k_callS (σ := Value × List ByteArray) (ok := fun s => SortOf l s.2) (own := fun s => [row false s.1 s.2.length (s.2.map Value.string) 9 1]) (val := fun s => .tuple #[s.1, .int .i64 (sortErr l : Nat)]) (fun _ => rfl) (by kernel_rfl) rfl rfl (fun w hw => refSort_any _ l w (hv0.ext (hw.below rfl)) (fun s hs => by have := h120 s hs; omega) hn) ?_
      rintro ⟨dv, d⟩ hd
      dsimp only at hd ⊢
      have hdc : d = c := sortOf_uniq hd ha
      subst hdc
      refine walkB ?_
      refine k_callb (v := .bool true) (by kernel_rfl) rfl rfl (fun w hw => (same_any _ bv l l w (hv0.ext (hw.below rfl)) (by exact strs_of_row (hw.row 3 rfl)) hn hn).mono fun e w' h => ⟨by rw [h.1, decide_eq_true rfl], h.2⟩) ?_
      refine walkB ?_
      refine k_callb (v := .bool true) (by kernel_rfl) rfl rfl (fun w hw => (same_any av dv d d w (by exact strs_of_row (hw.row 2 rfl)) (by exact strs_of_row (hw.row 0 rfl)) (Nat.le_trans (row_max (hw.row 0 rfl)) (by decide)) (Nat.le_trans (row_max (hw.row 0 rfl)) (by decide))).mono fun e w' h => ⟨by rw [h.1, decide_eq_true rfl], h.2⟩) ?_
      by_cases h0 : sortErr l = 0
      · have h1 := hse.2 h0
        rw [h0, h1]
        refine walkB ?_
        refine k_op rfl (fun _ _ => ov_beql rfl rfl (by kernel_rfl)) ?_
        refine walkB ?_
        refine k_callb (v := .bool true) (by kernel_rfl) rfl rfl (fun w hw => (same_any av cv d d w (by exact strs_of_row (hw.row 2 rfl)) (by exact strs_of_row (hw.row 1 rfl)) (Nat.le_trans (row_max (hw.row 0 rfl)) (by decide)) (Nat.le_trans (row_max (hw.row 0 rfl)) (by decide))).mono fun e w' h => ⟨by rw [h.1, decide_eq_true rfl], h.2⟩) ?_
        refine walkB ?_
        exact k_ret1 rfl rfl fun w hw => ⟨rfl, hw.below rfl⟩
      · have h1 : sortErr q ≠ 0 := fun h => h0 (hse.1 h)
        refine walkB ?_
        refine k_op rfl (fun _ _ => ov_beql rfl rfl (by kernel_rfl)) ?_
        refine walkB ?_
        refine k_callb (v := .bool true) (by kernel_rfl) rfl rfl (fun w hw => (same_any av cv d d w (by exact strs_of_row (hw.row 2 rfl)) (by exact strs_of_row (hw.row 1 rfl)) (Nat.le_trans (row_max (hw.row 0 rfl)) (by decide)) (Nat.le_trans (row_max (hw.row 0 rfl)) (by decide))).mono fun e w' h => ⟨by rw [h.1, decide_eq_true rfl], h.2⟩) ?_
        refine walkB ?_
        exact k_ret1 rfl rfl fun w hw => ⟨rfl, hw.below rfl⟩
end Go.Proofs.YtdolgoplflpbgaaDoor
