/- Names out of components: plain laws, and the walks. -/
import Derived.Test.YtdolgoplflpbgaaGreatDoorGrpW
import Derived.Lib.Join
namespace Go.Proofs.YtdolgoplflpbgaaGreatDoor
open Go.RowKit Go.Sort

/-! Plain: joining and splitting. -/
theorem join_snoc (l : List (List UInt8)) (x sep : List UInt8) (hl : l ≠ []) : Lib.join (l ++ [x]) sep = Lib.join l sep ++ (sep ++ x) := by
  cases l with
  | nil => exact absurd rfl hl
  | cons y l =>
    rw [List.cons_append, Lib.join_cons, Lib.join_cons, List.append_assoc]
    congr 1
    unfold Lib.joinTail
    simp
theorem join_two (x y : List UInt8) (l : List (List UInt8)) (sep : List UInt8) : Lib.join (x :: y :: l) sep = x ++ (sep ++ Lib.join (y :: l) sep) := by
  rw [Lib.join_cons, Lib.join_cons]
  unfold Lib.joinTail
  simp
theorem join_split {c : UInt8} : ∀ (f : Nat) (s : List UInt8), s.length ≤ f → Lib.join (Lib.split s [c]) [c] = s := by
  intro f
  induction f with
  | zero =>
    intro s hs
    have : s = [] := List.eq_nil_of_length_eq_zero (by omega)
    subst this
    rw [split_none (by simp), Lib.join_one]
  | succ f ih =>
    intro s hs
    by_cases h : c ∈ s
    · obtain ⟨a, b, rfl, ha⟩ := List.eq_append_cons_of_mem h
      rw [split_c (neq_of ha)]
      have := ih b (by simp at hs; omega)
      cases hb : Lib.split b [c] with
      | nil => exact absurd hb (split_ne b)
      | cons y r =>
        rw [hb] at this
        rw [join_two, this]; rfl
    · rw [split_none (neq_of h), Lib.join_one]
theorem split_join {c : UInt8} : ∀ {l : List (List UInt8)}, l ≠ [] → (∀ x ∈ l, ¬ c ∈ x) → Lib.split (Lib.join l [c]) [c] = l
  | [], h, _ => absurd rfl h
  | [x], _, h => by rw [Lib.join_one, split_none (neq_of (h x (by simp)))]
  | x :: y :: l, _, h => by
    rw [join_two, List.singleton_append, split_c (neq_of (h x (by simp))), split_join (by simp) (fun z hz => h z (by simp at hz ⊢; exact .inr hz))]
theorem split_free {c : UInt8} : ∀ (f : Nat) (s : List UInt8), s.length ≤ f → ∀ x ∈ Lib.split s [c], ¬ c ∈ x := by
  intro f
  induction f with
  | zero =>
    intro s hs x hx
    have : s = [] := List.eq_nil_of_length_eq_zero (by omega)
    subst this
    rw [split_none (by simp), List.mem_singleton] at hx
    subst hx; simp
  | succ f ih =>
    intro s hs x hx
    by_cases h : c ∈ s
    · obtain ⟨a, b, rfl, ha⟩ := List.eq_append_cons_of_mem h
      rw [split_c (neq_of ha)] at hx
      rcases List.mem_cons.1 hx with rfl | hx
      · exact ha
      · exact ih b (by simp at hs; omega) x hx
    · rw [split_none (neq_of h), List.mem_singleton] at hx
      subst hx; exact h
theorem mem_join {c z : UInt8} : ∀ {l : List (List UInt8)}, z ∈ Lib.join l [c] → z = c ∨ ∃ x ∈ l, z ∈ x
  | [], h => by rw [Lib.join_nil] at h; cases h
  | [x], h => by rw [Lib.join_one] at h; exact .inr ⟨x, by simp, h⟩
  | x :: y :: l, h => by
    rw [join_two, List.mem_append, List.singleton_append, List.mem_cons] at h
    rcases h with h | h | h
    · exact .inr ⟨x, by simp, h⟩
    · exact .inl h
    · rcases mem_join h with h | ⟨u, hu, h⟩
      · exact .inl h
      · exact .inr ⟨u, by simp at hu ⊢; exact .inr hu, h⟩
/-- The strings l, with sep between them. -/
def joinB (sep : ByteArray) (l : List ByteArray) : ByteArray := ⟨(Lib.join (l.map (·.data.toList)) sep.data.toList).toArray⟩
theorem joinB_data (sep : ByteArray) (l : List ByteArray) : (joinB sep l).data.toList = Lib.join (l.map (·.data.toList)) sep.data.toList := rfl
theorem joinB_nil (sep : ByteArray) : joinB sep [] = ⟨#[]⟩ := rfl
theorem joinB_one (sep x : ByteArray) : joinB sep [x] = x := by
  apply WideShapes.bytes_inj
  rw [joinB_data, List.map_cons, List.map_nil, Lib.join_one]
theorem joinB_snoc (sep x : ByteArray) (l : List ByteArray) (hl : l ≠ []) : joinB sep (l ++ [x]) = (joinB sep l ++ sep) ++ x := by
  apply WideShapes.bytes_inj
  rw [data_app, data_app, joinB_data, joinB_data, List.map_append, List.map_cons, List.map_nil, join_snoc _ _ _ (by simpa using hl), List.append_assoc]
theorem joinB_pieces (c : UInt8) (s : ByteArray) : joinB ⟨#[c]⟩ (piecesB ⟨#[c]⟩ s) = s := by
  apply WideShapes.bytes_inj
  rw [joinB_data, pieces_data]
  exact join_split _ _ (Nat.le_refl _)
theorem pieces_joinB {c : UInt8} {l : List ByteArray} (hl : l ≠ []) (h : ∀ x ∈ l, ¬ c ∈ x.data.toList) : piecesB ⟨#[c]⟩ (joinB ⟨#[c]⟩ l) = l := by
  apply map_data_inj
  rw [pieces_data, joinB_data]
  exact split_join (by simpa using hl) (fun x hx => by obtain ⟨y, hy, rfl⟩ := List.mem_map.1 hx; exact h y hy)
theorem pieces_free {c : UInt8} {s x : ByteArray} (h : x ∈ piecesB ⟨#[c]⟩ s) : ¬ c ∈ x.data.toList := by
  have : x.data.toList ∈ (piecesB ⟨#[c]⟩ s).map (·.data.toList) := List.mem_map.2 ⟨x, h, rfl⟩
  rw [pieces_data] at this
  exact split_free _ _ (Nat.le_refl _) _ this
theorem pieces_ne (c : UInt8) (s : ByteArray) : piecesB ⟨#[c]⟩ s ≠ [] := by
  intro h
  have := pieces_data c s
  rw [h] at this
  exact split_ne _ this.symm
theorem pieces_inj {c : UInt8} {a b : ByteArray} (h : piecesB ⟨#[c]⟩ a = piecesB ⟨#[c]⟩ b) : a = b := by rw [← joinB_pieces c a, h, joinB_pieces]
theorem joinB_take_le (sep : ByteArray) (l : List ByteArray) (k : Nat) : (joinB sep (l.take k)).size ≤ (joinB sep l).size := by
  have key : ∀ (m : List ByteArray) (x : ByteArray), (joinB sep m).size ≤ (joinB sep (m ++ [x])).size := by
    intro m x
    by_cases hm : m = []
    · subst hm; rw [joinB_nil]; exact Nat.zero_le _
    · rw [joinB_snoc sep x m hm, ByteArray.size_append, ByteArray.size_append]; omega
  have h2 : ∀ d, (joinB sep (l.take k)).size ≤ (joinB sep (l.take (k + d))).size := by
    intro d
    induction d with
    | zero => exact Nat.le_refl _
    | succ d ih =>
      refine Nat.le_trans ih ?_
      rw [show k + (d + 1) = (k + d) + 1 by omega]
      by_cases h : k + d < l.length
      · rw [List.take_succ_eq_append_getElem h]; exact key _ _
      · rw [List.take_of_length_le (by omega), List.take_of_length_le (by omega)]; exact Nat.le_refl _
  have := h2 l.length
  rw [List.take_of_length_le (i := k + l.length) (by omega)] at this
  exact this
theorem joinB_size (sep : ByteArray) (l : List ByteArray) (B : Nat) (h : ∀ x ∈ l, x.size ≤ B) : (joinB sep l).size ≤ l.length * (B + sep.size) := by
  have key : ∀ k, k ≤ l.length → (joinB sep (l.take k)).size ≤ k * (B + sep.size) := by
    intro k
    induction k with
    | zero => intro _; exact Nat.zero_le _
    | succ k ih =>
      intro hk
      have hx := h l[k] (List.getElem_mem (by omega))
      have := ih (by omega)
      rw [List.take_succ_eq_append_getElem (by omega : k < l.length), Nat.add_mul, Nat.one_mul]
      by_cases hl : l.take k = []
      · rw [hl, List.nil_append, joinB_one]; omega
      · rw [joinB_snoc sep _ _ hl, ByteArray.size_append, ByteArray.size_append]; omega
  have := key l.length (Nat.le_refl _)
  rwa [List.take_length] at this
set_option maxRecDepth 100000
attribute [local irreducible] K KS KLeft KRound J OV EV EU Blk wpList Code.wp bodyPost Exit.then Exit.inBlock Round Left Hid JS wpStill wpHeld Calls
attribute [local irreducible] joinB checkG compB piecesB
/-- The reference's Text. -/
theorem refText_any (v : Value) (l : List ByteArray) (sep : ByteArray) (r : World) (hv : StrsAt r v l) (hn : l.length ≤ 9223372036854775807) (hs : (joinB sep l).size ≤ 9223372036854775807) : Calls Tryz.prog 23 #[v, .string sep] r fun e w' => e = .returned (.string (joinB sep l)) ∧ Below r.heap.size r w' := by
  obtain ⟨ea, ca, rfl, _, hca⟩ := hv
  refine k_enter (N := 25) Tryz.func23 rfl rfl rfl ?_
  refine walkB ?_
  refine k_loop (σ := Nat) (fun k => [(0, .slice ea l.length ca), (1, .string sep), (5, .string (joinB sep (l.take k))), (6, .int .i64 k)]) (fun _ => []) (fun k => k ≤ l.length) (fun k => l.length - k) 0 (by rw [List.take_zero, joinB_nil]; repeat (first | exact Sub.nil | refine Sub.cons rfl ?_)) (by repeat (first | exact SubO.nil | refine SubO.keep ?_ | refine SubO.drop rfl ?_)) (Nat.zero_le _) ?_
  rintro k hk
  by_cases hlt : k < l.length
  · obtain ⟨b, o, rfl, hcell⟩ := hca k l[k] (by simp [hlt])
    have hsz := Nat.le_trans (joinB_take_le sep l (k + 1)) hs
    by_cases h0 : k = 0
    · subst h0
      have e0 : joinB sep (l.take 1) = ⟨#[]⟩ ++ l[0] := by
        rw [List.take_succ_eq_append_getElem hlt, List.take_zero, List.nil_append, joinB_one]
        apply WideShapes.bytes_inj; rw [data_app]; rfl
      rw [List.take_zero, joinB_nil]
      rw [show 0 + 1 = 1 from rfl, e0] at hsz
      rw [ByteArray.size_append] at hsz
      generalize l[0] = x at hcell e0 hsz
      refine walkB ?_
      refine k_op rfl (fun w hw => ov_sadd rfl rfl hsz) ?_
      refine walkB ?_
      refine k_round 1 (by rw [e0]; repeat (first | exact Sub.nil | refine Sub.cons rfl ?_)) (by repeat (first | exact SubO.nil | refine SubO.keep ?_ | refine SubO.drop rfl ?_)) (by omega) (by omega)
    · have e0 : joinB sep (l.take (k + 1)) = (joinB sep (l.take k) ++ sep) ++ l[k] := by
        rw [List.take_succ_eq_append_getElem hlt]
        exact joinB_snoc _ _ _ (fun h => h0 (by have := congrArg List.length h; rw [List.length_take, Nat.min_eq_left hk] at this; exact this))
      rw [e0, ByteArray.size_append, ByteArray.size_append] at hsz
      generalize l[k] = x at hcell e0 hsz
      refine walkB ?_
      refine k_op rfl (fun w hw => ov_sadd rfl rfl (by omega)) ?_
      refine walkB ?_
      refine k_op rfl (fun w hw => ov_sadd rfl rfl (by rw [ByteArray.size_append]; omega)) ?_
      refine walkB ?_
      refine k_round (k + 1) (by rw [e0]; repeat (first | exact Sub.nil | refine Sub.cons rfl ?_)) (by repeat (first | exact SubO.nil | refine SubO.keep ?_ | refine SubO.drop rfl ?_)) (by omega) (by omega)
  · have hkl : k = l.length := by omega
    subst hkl
    rw [List.take_length]
    refine walkB ?_
    exact k_ret1 rfl rfl fun w hw => ⟨rfl, hw.below rfl⟩
end Go.Proofs.YtdolgoplflpbgaaGreatDoor
