/- The reference's Within and Children. -/
import Derived.Test.YtdolgoplflpbgaaGreatDoorGrpY
import Derived.Test.YtdolgoplflpbgaaGreatDoorGrpU
namespace Go.Proofs.YtdolgoplflpbgaaGreatDoor
open Go.RowKit Go.Sort

/-! Plain. -/
theorem cut_head (l : List UInt8) : ∃ t, Lib.split l [46] = (Lib.cut l [46]).1 :: t := by
  by_cases h : (46 : UInt8) ∈ l
  · obtain ⟨a, b, rfl, ha⟩ := List.eq_append_cons_of_mem h
    refine ⟨Lib.split b [46], ?_⟩
    rw [split_c (neq_of ha)]
    unfold Lib.cut
    rw [index_c (neq_of ha), if_pos (by omega)]
    simp
  · refine ⟨[], ?_⟩
    rw [split_none (neq_of h)]
    unfold Lib.cut
    rw [index_c_none (neq_of h), if_neg (by omega)]
theorem firstB_head (s : ByteArray) : (piecesB dotB s)[0]? = some (firstB s) := by
  obtain ⟨t, ht⟩ := cut_head s.data.toList
  have h := pieces_data 46 s
  rw [ht] at h
  cases hp : piecesB dotB s with
  | nil => rw [show (⟨#[46]⟩ : ByteArray) = dotB from rfl, hp] at h; cases h
  | cons x l =>
    rw [show (⟨#[46]⟩ : ByteArray) = dotB from rfl, hp] at h
    injection h with h1 h2
    show some x = some (firstB s)
    congr 1
    exact Go.WideShapes.bytes_inj h1
def depthB (h : ByteArray) : Nat := if h = ByteArray.empty then 0 else (piecesB dotB h).length
theorem child_has {s h : ByteArray} (hs : checkG s = 0) (hh : h = ByteArray.empty ∨ checkG h = 0) :
    (depthB h < (piecesB dotB s).length ∧ (h = ByteArray.empty ∨ withinG s h = true) ↔ hasB s (hierB h) = true) ∧ (hasB s (hierB h) = true → (piecesB dotB s)[depthB h]? = some (firstB (restB s (hierB h)))) := by
  by_cases h0 : h = ByteArray.empty
  · subst h0
    have e1 : hierB ByteArray.empty = ByteArray.empty := by unfold hierB; rw [if_pos rfl]
    have e2 : hasB s ByteArray.empty = true := by unfold hasB Lib.hasPrefix; rfl
    have e3 : restB s ByteArray.empty = s := by
      unfold restB Lib.trimPrefix
      split
      · show (⟨(List.drop 0 s.data.toList).toArray⟩ : ByteArray) = s
        rw [List.drop_zero, Array.toArray_toList]
      · rw [Array.toArray_toList]
    have e4 : depthB ByteArray.empty = 0 := by unfold depthB; rw [if_pos rfl]
    rw [e1, e2, e3, e4]
    have := firstB_head s
    refine ⟨⟨fun _ => rfl, fun _ => ⟨?_, .inl rfl⟩⟩, fun _ => this⟩
    exact List.length_pos_iff.2 (pieces_ne 46 s)
  · have hh' : checkG h = 0 := hh.resolve_left h0
    have e1 : hierB h = h ++ dotB := by unfold hierB; rw [if_neg h0]
    have e4 : depthB h = (piecesB dotB h).length := by unfold depthB; rw [if_neg h0]
    rw [e1, e4]
    have key : hasB s (h ++ dotB) = true → piecesB dotB s = piecesB dotB h ++ piecesB dotB (restB s (h ++ dotB)) := by
      intro hp
      have hr : (restB s (h ++ dotB)).data.toList = s.data.toList.drop (h.data.toList.length + 1) := by
        unfold restB Lib.trimPrefix
        unfold hasB at hp
        rw [if_pos hp]
        show List.drop _ _ = _
        rw [data_app]; simp [dotB]
      have hs2 : s.data.toList = h.data.toList ++ 46 :: (restB s (h ++ dotB)).data.toList := by
        unfold hasB Lib.hasPrefix at hp
        rw [List.isPrefixOf_iff_prefix, data_app] at hp
        obtain ⟨t, ht⟩ := hp
        have hdr : ∀ a t : List UInt8, List.drop (a.length + 1) (a ++ 46 :: t) = t := fun a t => by
          induction a with
          | nil => rfl
          | cons x a ih => exact ih
        have hd : dotB.data.toList = [46] := rfl
        rw [hr, ← ht, hd, List.append_assoc, List.singleton_append, hdr]
      apply map_data_inj
      rw [List.map_append, show dotB = ⟨#[46]⟩ from rfl, pieces_data, pieces_data, pieces_data]
      rw [show (⟨#[46]⟩ : ByteArray) = dotB from rfl]
      conv => lhs; rw [hs2]
      exact split_app _ _ _ (Nat.le_refl _)
    refine ⟨⟨?_, ?_⟩, ?_⟩
    · rintro ⟨h1, h2⟩
      have h3 := h2.resolve_left h0
      unfold withinG belowB at h3
      simp only [Bool.and_eq_true, Bool.or_eq_true, decide_eq_true_eq] at h3
      rcases h3.2.2 with h4 | h4
      · subst h4; omega
      · exact h4
    · intro hp
      have h1 := key hp
      refine ⟨?_, .inr ?_⟩
      · rw [h1, List.length_append]
        have := List.length_pos_iff.2 (pieces_ne 46 (restB s (h ++ dotB)))
        have h2 : (piecesB dotB (restB s (h ++ dotB))).length = (piecesB ⟨#[46]⟩ (restB s (h ++ dotB))).length := rfl
        omega
      · rw [withinG_iff]
        exact ⟨hs, hh', by rw [h1]; exact List.prefix_append _ _⟩
    · intro hp
      rw [key hp, List.getElem?_append_right (Nat.le_refl _), Nat.sub_self]
      exact firstB_head _
theorem compareG_free {x y : ByteArray} (hx : ¬ (46 : UInt8) ∈ x.data.toList) (hy : ¬ (46 : UInt8) ∈ y.data.toList) : compareG x y < 0 ↔ lessS x y := by
  have one : ∀ {z : ByteArray}, ¬ (46 : UInt8) ∈ z.data.toList → piecesB dotB z = [z] := fun {z} hz => by
    apply map_data_inj
    rw [show dotB = ⟨#[46]⟩ from rfl, pieces_data, split_none (neq_of hz)]; rfl
  unfold compareG
  rw [one hx, one hy, cmpL, cmpL]
  have hc := cmpS_cases x y
  rw [← cmpS_lt]
  split <;> omega
theorem up_less {l : List ByteArray} (h : UpG l) (hf : ∀ x ∈ l, ¬ (46 : UInt8) ∈ x.data.toList) : l.Pairwise lessS :=
  List.Pairwise.imp_of_mem (fun {a b} ha hb hab => (compareG_free (hf a ha) (hf b hb)).1 hab) h
theorem hup0 : UpG [] := List.Pairwise.nil
theorem pieceV_zero (ea : Option Addr) (b cap sz : Nat) : pieceV ea 0 b cap sz = .slice ea b cap := by
  unfold pieceV
  rw [Nat.zero_mul, Nat.sub_zero, Nat.sub_zero]
  cases ea with
  | none => simp
  | some a => simp [Addr.add]
set_option maxRecDepth 100000
attribute [local irreducible] K KS KLeft KRound J OV EV EU Blk wpList Code.wp bodyPost Exit.then Exit.inBlock Round Left Hid JS wpStill wpHeld Calls
attribute [local irreducible] compareG piecesB errG checkG UpG joinB hasB restB firstB
theorem refWithin_any (n h : ByteArray) (r : World) (hn : n.size ≤ 9223372036854775807) (hh : h.size ≤ 9223372036854775807) : Calls Tryz.prog 26 #[.string n, .string h] r fun e w' => e = .returned (.bool (withinG n h)) ∧ Below r.heap.size r w' := by
  refine k_enter (N := 31) Tryz.func26 rfl rfl rfl ?_
  unfold withinG
  refine walkB ?_
  refine k_callb (v := .int .i64 (checkG n)) (by kernel_rfl) rfl rfl (fun w hw => refCheckG_any n w hn) ?_
  by_cases h1 : checkG n = 0
  · rw [h1]
    refine walkB ?_
    refine k_callb (v := .int .i64 (checkG h)) (by kernel_rfl) rfl rfl (fun w hw => refCheckG_any h w hh) ?_
    by_cases h2 : checkG h = 0
    · rw [h2]
      have hn80 := checkG_size h1
      have hh80 := checkG_size h2
      have hW := withinR n h h2
      have hl1 : (piecesB dotB n).length ≤ 10 := (checkG_iff.1 h1).2.2
      have hl2 : (piecesB dotB h).length ≤ 10 := (checkG_iff.1 h2).2.2
      refine walkB ?_
      refine k_callr (by kernel_rfl) rfl rfl (fun w hw => (refParts_any n 46 w (by omega)).mono fun e w' ⟨v, h1, _, h3⟩ => ⟨v, h1, own_up h3, h3.below rfl⟩) ?_
      intro v1
      refine walkB ?_
      refine k_callr (by kernel_rfl) rfl rfl (fun w hw => (refParts_any h 46 w (by omega)).mono fun e w' ⟨v, h1, _, h3⟩ => ⟨v, h1, own_up h3, h3.below rfl⟩) ?_
      intro v2
      refine k_rowslice 0 rfl ?_
      rintro ⟨ea2, cap2, rfl⟩
      refine k_rowsliceC 1 rfl ?_
      rintro ea1 cap1 rfl hcap1 -
      rw [show (⟨#[46]⟩ : ByteArray) = dotB from rfl] at hcap1
      rw [← hW]
      rw [show (⟨#[46]⟩ : ByteArray) = dotB from rfl]
      refine walkB ?_
      by_cases hlt : (piecesB dotB h).length ≤ (piecesB dotB n).length
      · rw [decide_eq_true hlt]
        have hjs : (joinB dotB ((piecesB dotB n).take (piecesB dotB h).length)).size ≤ 80 := by
          have h3 := joinB_take_le dotB (piecesB dotB n) (piecesB dotB h).length
          have h4 : joinB dotB (piecesB dotB n) = n := joinB_pieces 46 n
          rw [h4] at h3
          omega
        refine k_condd_f rfl (by omega) ?_
        refine walkB ?_
        refine k_op rfl (fun _ _ => ov_sliceto rfl rfl (piecesB dotB h).length rfl (by omega)) ?_
        refine walkB ?_
        refine k_callb (by kernel_rfl) rfl rfl (fun w hw => refText_any _ _ dotB w (strs_take (strs_of_row (hw.row 1 rfl)) _ hlt) (by rw [List.length_take]; omega) (by omega)) ?_
        refine walkB ?_
        exact k_ret1 rfl rfl fun w hw => ⟨rfl, hw.below rfl⟩
      · rw [decide_eq_false hlt]
        refine k_condd_t rfl (by omega) ?_
        refine walkB ?_
        exact k_ret1 rfl rfl fun w hw => ⟨rfl, hw.below rfl⟩
    · rw [decide_eq_false h2]
      refine walkB ?_
      exact k_ret1 rfl rfl fun w hw => ⟨rfl, hw.below rfl⟩
  · rw [decide_eq_false h1]
    refine walkB ?_
    exact k_ret1 rfl rfl fun w hw => ⟨rfl, hw.below rfl⟩
/-! Children. -/
end Go.Proofs.YtdolgoplflpbgaaGreatDoor
