/- Plain words, no program: pieces between separators; the order of strings and of lists of strings. -/
import Derived.Test.YtdolgoplflpbgaaGreatDoorGrpB
import Derived.WideShapes
namespace Go.Proofs.YtdolgoplflpbgaaGreatDoor

/-! The order of byte lists. -/
theorem bl_irrefl : ∀ x : List UInt8, Op.bytesLess x x = false
  | [] => rfl
  | a :: x => by
    rw [Op.bytesLess, bl_irrefl x]
    simp
theorem bl_cons {a b : UInt8} {x y : List UInt8} : Op.bytesLess (a :: x) (b :: y) = true ↔ a.toNat < b.toNat ∨ a = b ∧ Op.bytesLess x y = true := by
  rw [Op.bytesLess]
  simp [UInt8.lt_iff_toNat_lt]
theorem bl_trans : ∀ {x y z : List UInt8}, Op.bytesLess x y = true → Op.bytesLess y z = true → Op.bytesLess x z = true
  | x, y, [] => fun _ h => by cases y <;> simp [Op.bytesLess] at h
  | [], y, c :: z => fun _ _ => rfl
  | a :: x, [], c :: z => fun h _ => by simp [Op.bytesLess] at h
  | a :: x, b :: y, c :: z => fun h1 h2 => by
    rw [bl_cons] at h1 h2 ⊢
    rcases h1 with h1 | ⟨rfl, h1⟩
    · rcases h2 with h2 | ⟨rfl, h2⟩
      · exact .inl (by omega)
      · exact .inl h1
    · rcases h2 with h2 | ⟨rfl, h2⟩
      · exact .inl h2
      · exact .inr ⟨rfl, bl_trans h1 h2⟩
theorem bl_total : ∀ {x y : List UInt8}, Op.bytesLess x y = false → Op.bytesLess y x = false → x = y
  | [], [] => fun _ _ => rfl
  | [], b :: y => fun h _ => by simp [Op.bytesLess] at h
  | a :: x, [] => fun _ h => by simp [Op.bytesLess] at h
  | a :: x, b :: y => fun h1 h2 => by
    rw [Bool.eq_false_iff, ne_eq, bl_cons] at h1 h2
    have hab : a = b := UInt8.toNat_inj.1 (by
      have h3 : ¬ a.toNat < b.toNat := fun h => h1 (.inl h)
      have h4 : ¬ b.toNat < a.toNat := fun h => h2 (.inl h)
      omega)
    subst hab
    have := bl_total (x := x) (y := y) (Bool.eq_false_iff.2 fun h => h1 (.inr ⟨rfl, h⟩)) (Bool.eq_false_iff.2 fun h => h2 (.inr ⟨rfl, h⟩))
    rw [this]
def lessS (x y : ByteArray) : Prop := Op.bytesLess x.toList y.toList = true
theorem less_irrefl (x : ByteArray) : ¬ lessS x x := by unfold lessS; rw [bl_irrefl]; simp
theorem less_trans {x y z : ByteArray} (h1 : lessS x y) (h2 : lessS y z) : lessS x z := bl_trans h1 h2
theorem less_total {x y : ByteArray} (h1 : ¬ lessS x y) (h2 : ¬ lessS y x) : x = y := by
  have h := bl_total (Bool.eq_false_iff.2 h1) (Bool.eq_false_iff.2 h2)
  rw [ByteArray.toList_eq, ByteArray.toList_eq] at h
  exact Go.WideShapes.bytes_inj h
theorem cmpS_lt {x y : ByteArray} : cmpS x y = -1 ↔ lessS x y := by
  unfold cmpS lessS
  split
  · rename_i h; exact ⟨fun _ => h, fun _ => rfl⟩
  · rename_i h
    refine ⟨fun h' => ?_, fun h' => absurd h' h⟩
    split at h' <;> omega
theorem cmpS_zero {x y : ByteArray} : cmpS x y = 0 ↔ x = y := by
  unfold cmpS
  constructor
  · intro h
    split at h
    · omega
    · split at h
      · rename_i h1 h2
        rw [Bool.or_eq_true] at h2
        rcases h2 with h2 | h2
        · exact absurd h2 h1
        · have h3 : x.toList = y.toList := by simpa using h2
          rw [ByteArray.toList_eq, ByteArray.toList_eq] at h3
          exact Go.WideShapes.bytes_inj h3
      · omega
  · rintro rfl
    rw [if_neg (by rw [bl_irrefl]; simp), if_pos (by simp)]
theorem cmpS_gt {x y : ByteArray} : cmpS x y = 1 ↔ lessS y x := by
  have h1 := cmpS_cases x y
  constructor
  · intro h
    have a : ¬ lessS x y := fun h' => by rw [cmpS_lt.2 h'] at h; omega
    have b : x ≠ y := fun h' => by rw [cmpS_zero.2 h'] at h; omega
    rcases Classical.em (lessS y x) with h' | h'
    · exact h'
    · exact absurd (less_total a h') b
  · intro h
    rcases h1 with h1 | h1 | h1
    · exact absurd (less_trans h (cmpS_lt.1 h1)) (less_irrefl _)
    · rw [cmpS_zero.1 h1] at h; exact absurd h (less_irrefl _)
    · exact h1
theorem cmpS_swap (x y : ByteArray) : cmpS y x = - cmpS x y := by
  rcases cmpS_cases x y with h | h | h
  · rw [h, cmpS_gt.2 (cmpS_lt.1 h)]; rfl
  · rw [h, cmpS_zero.2 (cmpS_zero.1 h).symm]; rfl
  · rw [h, cmpS_lt.2 (cmpS_gt.1 h)]
/-! The order of lists of strings. -/
theorem cmpL_cases : ∀ l m : List ByteArray, cmpL l m = -1 ∨ cmpL l m = 0 ∨ cmpL l m = 1
  | [], [] => .inr (.inl rfl)
  | [], _ :: _ => .inl rfl
  | _ :: _, [] => .inr (.inr rfl)
  | x :: l, y :: m => by
    rw [cmpL]
    split
    · exact cmpL_cases l m
    · exact cmpS_cases x y
theorem cmpL_swap : ∀ l m : List ByteArray, cmpL m l = - cmpL l m
  | [], [] => rfl
  | [], _ :: _ => rfl
  | _ :: _, [] => rfl
  | x :: l, y :: m => by
    rw [cmpL, cmpL, cmpS_swap x y]
    by_cases h : cmpS x y = 0
    · rw [if_pos h, if_pos (by omega), cmpL_swap l m]
    · rw [if_neg h, if_neg (by omega)]
theorem cmpL_zero : ∀ {l m : List ByteArray}, cmpL l m = 0 ↔ l = m
  | [], [] => ⟨fun _ => rfl, fun _ => rfl⟩
  | [], _ :: _ => ⟨fun h => by simp [cmpL] at h, fun h => by cases h⟩
  | _ :: _, [] => ⟨fun h => by simp [cmpL] at h, fun h => by cases h⟩
  | x :: l, y :: m => by
    rw [cmpL]
    by_cases h : cmpS x y = 0
    · rw [if_pos h, cmpL_zero, cmpS_zero.1 h]; simp
    · rw [if_neg h]
      exact ⟨fun h' => absurd h' h, fun h' => by injection h' with h1 h2; exact cmpS_zero.2 h1⟩
theorem cmpL_trans : ∀ {l m n : List ByteArray}, cmpL l m ≤ 0 → cmpL m n ≤ 0 → cmpL l n ≤ 0
  | [], m, [] => fun _ _ => by simp [cmpL]
  | [], m, _ :: _ => fun _ _ => by simp [cmpL]
  | x :: l, [], n => fun h _ => by simp [cmpL] at h
  | x :: l, y :: m, [] => fun _ h => by simp [cmpL] at h
  | x :: l, y :: m, z :: n => fun h1 h2 => by
    rw [cmpL] at h1 h2 ⊢
    have cxy := cmpS_cases x y
    have cyz := cmpS_cases y z
    by_cases a : cmpS x y = 0
    · rw [if_pos a] at h1
      have := cmpS_zero.1 a
      subst this
      by_cases b : cmpS x z = 0
      · rw [if_pos b] at h2 ⊢
        exact cmpL_trans h1 h2
      · rw [if_neg b] at h2 ⊢
        exact h2
    · rw [if_neg a] at h1
      by_cases b : cmpS y z = 0
      · have := cmpS_zero.1 b
        subst this
        rw [if_neg a]; exact h1
      · rw [if_neg b] at h2
        have e1 : cmpS x y = -1 := by omega
        have e2 : cmpS y z = -1 := by omega
        have hxz : cmpS x z = -1 := cmpS_lt.2 (less_trans (cmpS_lt.1 e1) (cmpS_lt.1 e2))
        rw [if_neg (by omega)]; omega

/-! Pieces. -/
theorem index_c_none {c : UInt8} : ∀ {l : List UInt8}, (∀ x ∈ l, x ≠ c) → Lib.index l [c] = -1 := by
  intro l
  induction l with
  | nil => intro _; rfl
  | cons b l ih =>
    intro h
    have h1 : b ≠ c := h b (by simp)
    rw [Lib.index, if_neg (by simp [List.isPrefixOf]; exact fun e => h1 e.symm), ih (fun x hx => h x (by simp [hx]))]; rfl
theorem index_c {c : UInt8} : ∀ {a b : List UInt8}, (∀ x ∈ a, x ≠ c) → Lib.index (a ++ c :: b) [c] = (a.length : Int) := by
  intro a b
  induction a with
  | nil => intro _; rw [List.nil_append, Lib.index, if_pos (by simp [List.isPrefixOf])]; rfl
  | cons d a ih =>
    intro h
    have h1 : d ≠ c := h d (by simp)
    rw [List.cons_append, Lib.index, if_neg (by simp [List.isPrefixOf]; exact fun e => h1 e.symm), ih (fun x hx => h x (by simp [hx]))]
    rw [if_neg (by simp)]
    simp
theorem split_none {c : UInt8} {l : List UInt8} (h : ∀ x ∈ l, x ≠ c) : Lib.split l [c] = [l] := by
  unfold Lib.split
  rw [Lib.count_miss (index_c_none h)]; rfl
theorem split_c {c : UInt8} {a b : List UInt8} (h : ∀ x ∈ a, x ≠ c) : Lib.split (a ++ c :: b) [c] = a :: Lib.split b [c] := by
  have hi := index_c (b := b) h
  unfold Lib.split
  have hd : (a ++ c :: b).drop (a.length + 1) = b := by
    rw [← List.drop_drop]; simp
  have hc := Lib.count_hit (by simp : ([c] : List UInt8) ≠ []) hi
  simp only [List.length_cons, List.length_nil, Nat.zero_add] at hc
  rw [hd] at hc
  rw [hc, Nat.add_comm, Lib.splitK, if_neg (by rw [hi]; simp), hi]
  simp only [List.length_cons, List.length_nil, Nat.zero_add, Nat.add_zero, Int.toNat_natCast]
  rw [hd]
  simp
/-- A piece of a list. -/
def pieceG (l : List UInt8) (a b : Nat) : List UInt8 := (l.drop a).take (b - a)
theorem pieceG_none {c : UInt8} {l : List UInt8} {a b : Nat} (hab : a ≤ b) (hb : b ≤ l.length) (h : ∀ j, a ≤ j → j < b → byteAt l j ≠ c) : ∀ x ∈ pieceG l a b, x ≠ c := by
  intro x hx e
  subst e
  obtain ⟨i, hi, hx⟩ := List.getElem_of_mem hx
  unfold pieceG at hi hx
  rw [List.length_take, List.length_drop] at hi
  rw [List.getElem_take, List.getElem_drop] at hx
  refine h (a + i) (by omega) (by omega) ?_
  unfold byteAt
  rw [List.getElem?_eq_getElem (by omega)]
  exact hx
theorem split_at {c : UInt8} {l : List UInt8} {a b : Nat} (hab : a ≤ b) (hb : b < l.length) (h : ∀ j, a ≤ j → j < b → byteAt l j ≠ c) (hc : byteAt l b = c) : Lib.split (l.drop a) [c] = pieceG l a b :: Lib.split (l.drop (b + 1)) [c] := by
  have e : l.drop a = pieceG l a b ++ c :: l.drop (b + 1) := by
    have h0 : l[b] = c := by unfold byteAt at hc; rw [List.getElem?_eq_getElem hb] at hc; exact hc
    have : c :: l.drop (b + 1) = (l.drop a).drop (b - a) := by
      rw [List.drop_drop, show a + (b - a) = b by omega, List.drop_eq_getElem_cons hb, h0]
    rw [this]; unfold pieceG; rw [List.take_append_drop]
  rw [e, split_c (pieceG_none hab (by omega) h)]
theorem split_end {c : UInt8} {l : List UInt8} {a : Nat} (ha : a ≤ l.length) (h : ∀ j, a ≤ j → j < l.length → byteAt l j ≠ c) : Lib.split (l.drop a) [c] = [pieceG l a l.length] := by
  have e : l.drop a = pieceG l a l.length := by unfold pieceG; rw [List.take_of_length_le (by rw [List.length_drop]; omega)]
  rw [e, split_none (pieceG_none ha (Nat.le_refl _) h)]
theorem pieceG_data (s : ByteArray) (a b : Nat) : (s.extract a b).data.toList = pieceG s.data.toList a b := by
  unfold pieceG
  rw [ByteArray.data_extract, Array.toList_extract, List.extract_eq_take_drop]
theorem pieces_data (c : UInt8) (s : ByteArray) : (piecesB ⟨#[c]⟩ s).map (·.data.toList) = Lib.split s.data.toList [c] := by
  unfold piecesB Lib.split
  rw [Lib.splitB_data]
theorem map_data_inj : ∀ {l m : List ByteArray}, l.map (·.data.toList) = m.map (·.data.toList) → l = m
  | [], [] => fun _ => rfl
  | [], _ :: _ => fun h => by cases h
  | _ :: _, [] => fun h => by cases h
  | x :: l, y :: m => fun h => by
    injection h with h1 h2
    rw [Go.WideShapes.bytes_inj (h1 : x.data.toList = y.data.toList), map_data_inj h2]
end Go.Proofs.YtdolgoplflpbgaaGreatDoor
