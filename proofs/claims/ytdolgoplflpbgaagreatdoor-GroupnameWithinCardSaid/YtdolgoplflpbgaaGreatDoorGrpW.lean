/- Hierarchies: plain laws, and the walk of Within. -/
import Derived.Test.YtdolgoplflpbgaaGreatDoorGrpL
namespace Go.Proofs.YtdolgoplflpbgaaGreatDoor
open Go.RowKit Go.Sort

/-! Pieces and prefixes. -/
theorem split_app {c : UInt8} : ∀ (f : Nat) (x y : List UInt8), x.length ≤ f → Lib.split (x ++ c :: y) [c] = Lib.split x [c] ++ Lib.split y [c] := by
  intro f
  induction f with
  | zero =>
    intro x y hx
    have : x = [] := List.eq_nil_of_length_eq_zero (by omega)
    subst this
    rw [split_none (l := []) (by simp)]
    exact split_c (a := []) (by simp)
  | succ f ih =>
    intro x y hx
    by_cases h : c ∈ x
    · obtain ⟨a, b, rfl, ha⟩ := List.eq_append_cons_of_mem h
      rw [List.append_assoc, List.cons_append, split_c (neq_of ha), split_c (neq_of ha), ih b y (by simp at hx; omega), List.cons_append]
    · rw [split_none (neq_of h), split_c (neq_of h)]; rfl
theorem split_prefix {c : UInt8} : ∀ (f : Nat) (x y : List UInt8), x.length ≤ f → Lib.split x [c] <+: Lib.split y [c] → y = x ∨ x ++ [c] <+: y := by
  intro f
  induction f with
  | zero =>
    intro x y hx h
    have : x = [] := List.eq_nil_of_length_eq_zero (by omega)
    subst this
    rw [split_none (l := []) (by simp)] at h
    by_cases hy : c ∈ y
    · obtain ⟨a, b, rfl, ha⟩ := List.eq_append_cons_of_mem hy
      rw [split_c (neq_of ha)] at h
      obtain ⟨t, ht⟩ := h
      injection ht with h1 h2
      subst h1
      exact .inr ⟨b, rfl⟩
    · rw [split_none (neq_of hy)] at h
      obtain ⟨t, ht⟩ := h
      injection ht with h1 h2
      exact .inl h1.symm
  | succ f ih =>
    intro x y hx h
    by_cases hxc : c ∈ x
    · obtain ⟨a, b, rfl, ha⟩ := List.eq_append_cons_of_mem hxc
      rw [split_c (neq_of ha)] at h
      by_cases hy : c ∈ y
      · obtain ⟨a', b', rfl, ha'⟩ := List.eq_append_cons_of_mem hy
        rw [split_c (neq_of ha')] at h
        obtain ⟨t, ht⟩ := h
        injection ht with h1 h2
        subst h1
        rcases ih b b' (by simp at hx; omega) ⟨t, h2⟩ with h3 | ⟨u, h3⟩
        · exact .inl (by rw [h3])
        · exact .inr ⟨u, by rw [← h3]; simp⟩
      · rw [split_none (neq_of hy)] at h
        obtain ⟨t, ht⟩ := h
        injection ht with h1 h2
        exact absurd (List.append_eq_nil_iff.1 h2).1 (split_ne b)
    · rw [split_none (neq_of hxc)] at h
      by_cases hy : c ∈ y
      · obtain ⟨a', b', rfl, ha'⟩ := List.eq_append_cons_of_mem hy
        rw [split_c (neq_of ha')] at h
        obtain ⟨t, ht⟩ := h
        injection ht with h1 h2
        subst h1
        exact .inr ⟨b', by simp⟩
      · rw [split_none (neq_of hy)] at h
        obtain ⟨t, ht⟩ := h
        injection ht with h1 h2
        exact .inl h1.symm
theorem split_prefix_iff {c : UInt8} (x y : List UInt8) : Lib.split x [c] <+: Lib.split y [c] ↔ y = x ∨ x ++ [c] <+: y := by
  refine ⟨split_prefix _ x y (Nat.le_refl _), ?_⟩
  rintro (rfl | ⟨t, rfl⟩)
  · exact List.prefix_rfl
  · rw [List.append_assoc, List.singleton_append, split_app _ _ _ (Nat.le_refl _)]
    exact List.prefix_append _ _
/-- n is h or lies below it. -/
def belowB (n h : ByteArray) : Bool := decide (n = h) || Lib.hasPrefix n.data.toList (h ++ dotB).data.toList
theorem data_app (a b : ByteArray) : (a ++ b).data.toList = a.data.toList ++ b.data.toList := by simp [ByteArray.data_append]
theorem map_prefix {l m : List ByteArray} : l <+: m ↔ l.map (·.data.toList) <+: m.map (·.data.toList) := by
  constructor
  · rintro ⟨t, rfl⟩; rw [List.map_append]; exact List.prefix_append _ _
  · intro h
    have h1 := List.prefix_iff_eq_take.1 h
    rw [List.length_map, ← List.map_take] at h1
    have := map_data_inj h1
    rw [this]; exact List.take_prefix _ _
theorem belowB_iff (n h : ByteArray) : belowB n h = true ↔ piecesB dotB h <+: piecesB dotB n := by
  rw [map_prefix, show dotB = ⟨#[46]⟩ from rfl, pieces_data, pieces_data, split_prefix_iff]
  unfold belowB Lib.hasPrefix
  rw [Bool.or_eq_true, decide_eq_true_eq, List.isPrefixOf_iff_prefix, data_app]
  constructor
  · rintro (rfl | h1)
    · exact .inl rfl
    · exact .inr h1
  · rintro (h1 | h1)
    · exact .inl (WideShapes.bytes_inj h1)
    · exact .inr h1
/-! The order and prefixes. -/
theorem cmpL_prefix : ∀ (p t : List ByteArray), cmpL p (p ++ t) ≤ 0
  | [], [] => by simp [cmpL]
  | [], _ :: _ => by simp [cmpL]
  | x :: p, t => by
    rw [List.cons_append, cmpL, if_pos (cmpS_zero.2 rfl)]
    exact cmpL_prefix p t
theorem cmpL_between : ∀ {p x y z : List ByteArray}, p <+: x → p <+: z → cmpL x y ≤ 0 → cmpL y z ≤ 0 → p <+: y
  | [], _, _, _, _, _, _, _ => List.nil_prefix
  | q :: p, x, y, z, ⟨t, ht⟩, ⟨u, hu⟩, h1, h2 => by
    subst ht; subst hu
    cases y with
    | nil => rw [List.cons_append, cmpL] at h1; omega
    | cons w y =>
      rw [List.cons_append, cmpL] at h1 h2
      have hs := cmpS_swap q w
      have hc := cmpS_cases q w
      have h0 : cmpS q w = 0 := by
        split at h1
        · assumption
        · split at h2 <;> omega
      rw [if_pos h0] at h1
      rw [if_pos (by omega)] at h2
      have := cmpS_zero.1 h0
      subst this
      obtain ⟨v, hv⟩ := cmpL_between (List.prefix_append p t) (List.prefix_append p u) h1 h2
      exact ⟨v, by rw [← hv]; rfl⟩
/-! Within. -/
def withinG (n h : ByteArray) : Bool := decide (checkG n = 0) && (decide (checkG h = 0) && belowB n h)
theorem withinG_iff {n h : ByteArray} : withinG n h = true ↔ checkG n = 0 ∧ checkG h = 0 ∧ piecesB dotB h <+: piecesB dotB n := by
  unfold withinG
  rw [Bool.and_eq_true, Bool.and_eq_true, decide_eq_true_eq, decide_eq_true_eq, belowB_iff]
theorem within_cmp {n h : ByteArray} (hw : withinG n h = true) : compareG h n ≤ 0 := by
  obtain ⟨_, _, t, ht⟩ := withinG_iff.1 hw
  unfold compareG
  rw [← ht]; exact cmpL_prefix _ _
theorem within_between {a b c h : ByteArray} (hb : checkG b = 0) (h1 : compareG a b ≤ 0) (h2 : compareG b c ≤ 0) (ha : withinG a h = true) (hc : withinG c h = true) : withinG b h = true := by
  obtain ⟨_, hh, hpa⟩ := withinG_iff.1 ha
  obtain ⟨_, _, hpc⟩ := withinG_iff.1 hc
  exact withinG_iff.2 ⟨hb, hh, cmpL_between hpa hpc h1 h2⟩
theorem belowB_same {n h : ByteArray} (e : n = h) : belowB n h = true := by unfold belowB; rw [decide_eq_true e]; rfl
theorem belowB_other {n h : ByteArray} (e : n ≠ h) : belowB n h = Lib.hasPrefix n.data.toList (h ++ dotB).data.toList := by unfold belowB; rw [decide_eq_false e]; rfl
set_option maxRecDepth 100000
attribute [local irreducible] K KS KLeft KRound J OV EV EU Blk wpList Code.wp bodyPost Exit.then Exit.inBlock Round Left Hid JS wpStill wpHeld Calls
attribute [local irreducible] checkG belowB
theorem within_any (n h : ByteArray) (m : Int) (r : World) (hn : n.size ≤ 1000000000) (hh : h.size ≤ 1000000000) (hm : r.cell? ⟨0, 0, none⟩ = some (.int .i64 m)) :
    Calls Tryz.prog 25 #[.string n, .string h] r fun e w' => e = .returned (.bool (withinG n h)) ∧ Below r.heap.size r w' := by
  unfold withinG
  refine k_enter (N := 24) Tryz.func25 rfl rfl rfl ?_
  refine walkB ?_
  refine k_callb (v := .int .i64 (checkG n)) (by kernel_rfl) rfl rfl (fun w hw => checkG_any n m w (by omega) (cell_ext (hw.below rfl) hm)) ?_
  by_cases h1 : checkG n = 0
  · rw [h1]
    refine walkB ?_
    refine k_callb (v := .int .i64 (checkG h)) (by kernel_rfl) rfl rfl (fun w hw => checkG_any h m w (by omega) (cell_ext (hw.below rfl) hm)) ?_
    by_cases h2 : checkG h = 0
    · rw [h2]
      refine walkB ?_
      by_cases e : n = h
      · have hb := belowB_same e
        rw [decide_eq_true e]
        refine walkB ?_
        exact k_ret1 rfl rfl fun w hw => ⟨by rw [hb]; rfl, hw.below rfl⟩
      · have hb := belowB_other e
        rw [decide_eq_false e]
        refine walkB ?_
        refine k_op rfl (fun w hw => ov_sadd rfl rfl (by show h.size + 1 ≤ _; omega)) ?_
        refine walkB ?_
        refine k_callb (v := .bool (belowB n h)) (by kernel_rfl) rfl rfl (fun w hw => (Tryz.strings_HasPrefix n (h ++ dotB) w).mono fun e w' ⟨h1, h2⟩ => ⟨by rw [h1, hb], h2 ▸ Below.refl _ _⟩) ?_
        refine walkB ?_
        exact k_ret1 rfl rfl fun w hw => ⟨rfl, hw.below rfl⟩
    · rw [decide_eq_false h2]
      refine walkB ?_
      exact k_ret1 rfl rfl fun w hw => ⟨rfl, hw.below rfl⟩
  · rw [decide_eq_false h1]
    refine walkB ?_
    exact k_ret1 rfl rfl fun w hw => ⟨rfl, hw.below rfl⟩
end Go.Proofs.YtdolgoplflpbgaaGreatDoor
