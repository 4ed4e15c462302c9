/- The reference's Within and Children. -/
import Derived.Test.YtdolgoplflpbgaaDoorGrpY
import Derived.Test.YtdolgoplflpbgaaDoorGrpU
namespace Go.Proofs.YtdolgoplflpbgaaDoor
open Go.RowKit Go.Sort

/-! Plain. -/
theorem cut_head (l : List UInt8) : ∃ t, Lib.split l [46] = (Lib.cut l [46]).1 :: t := by
  by_cases h : (46 : UInt8) ∈ l
  · obtain ⟨a, b, rfl, ha⟩ := List.eq_append_cons_of_mem h
    refine ⟨Lib.split b [46], ?_⟩
    rw [split_c (neq_of ha)]
    unfold Lib.cut
    rw [index_c (neq_of ha), if_pos (by omega)]
    simp
  · refine ⟨[], ?_⟩
    rw [split_none (neq_of h)]
    unfold Lib.cut
    rw [index_c_none (neq_of h), if_neg (by omega)]
theorem firstB_head (s : ByteArray) : (piecesB dotB s)[0]? = some (firstB s) := by
  obtain ⟨t, ht⟩ := cut_head s.data.toList
  have h := pieces_data 46 s
  rw [ht] at h
  cases hp : piecesB dotB s with
  | nil => rw [show (⟨#[46]⟩ : ByteArray) = dotB from rfl, hp] at h; cases h
  | cons x l =>
    rw [show (⟨#[46]⟩ : ByteArray) = dotB from rfl, hp] at h
    injection h with h1 h2
    show some x = some (firstB s)
    congr 1
    exact Go.WideShapes.bytes_inj h1
def depthB (h : ByteArray) : Nat := if h = ByteArray.empty then 0 else (piecesB dotB h).length
theorem child_has {s h : ByteArray} (hs : checkG s = 0) (hh : h = ByteArray.empty ∨ checkG h = 0) :
    (depthB h < (piecesB dotB s).length ∧ (h = ByteArray.empty ∨ withinG s h = true) ↔ hasB s (hierB h) = true) ∧ (hasB s (hierB h) = true → (piecesB dotB s)[depthB h]? = some (firstB (restB s (hierB h)))) := by
  by_cases h0 : h = ByteArray.empty
  · subst h0
    have e1 : hierB ByteArray.empty = ByteArray.empty := by unfold hierB; rw [if_pos rfl]
    have e2 : hasB s ByteArray.empty = true := by unfold hasB Lib.hasPrefix; rfl
    have e3 : restB s ByteArray.empty = s := by
      unfold restB Lib.trimPrefix
      split
      · show (⟨(List.drop 0 s.data.toList).toArray⟩ : ByteArray) = s
        rw [List.drop_zero, Array.toArray_toList]
      · rw [Array.toArray_toList]
    have e4 : depthB ByteArray.empty = 0 := by unfold depthB; rw [if_pos rfl]
    rw [e1, e2, e3, e4]
    have := firstB_head s
    refine ⟨⟨fun _ => rfl, fun _ => ⟨?_, .inl rfl⟩⟩, fun _ => this⟩
    exact List.length_pos_iff.2 (pieces_ne 46 s)
  · have hh' : checkG h = 0 := hh.resolve_left h0
    have e1 : hierB h = h ++ dotB := by unfold hierB; rw [if_neg h0]
    have e4 : depthB h = (piecesB dotB h).length := by unfold depthB; rw [if_neg h0]
    rw [e1, e4]
    have key : hasB s (h ++ dotB) = true → piecesB dotB s = piecesB dotB h ++ piecesB dotB (restB s (h ++ dotB)) := by
      intro hp
      have hr : (restB s (h ++ dotB)).data.toList = s.data.toList.drop (h.data.toList.length + 1) := by
        unfold restB Lib.trimPrefix
        unfold hasB at hp
        rw [if_pos hp]
        show List.drop _ _ = _
        rw [data_app]; simp [dotB]
      have hs2 : s.data.toList = h.data.toList ++ 46 :: (restB s (h ++ dotB)).data.toList := by
        unfold hasB Lib.hasPrefix at hp
        rw [List.isPrefixOf_iff_prefix, data_app] at hp
        obtain ⟨t, ht⟩ := hp
        have hdr : ∀ a t : List UInt8, List.drop (a.length + 1) (a ++ 46 :: t) = t := fun a t => by
          induction a with
          | nil => rfl
          | cons x a ih => exact ih
        have hd : dotB.data.toList = [46] := rfl
        rw [hr, ← ht, hd, List.append_assoc, List.singleton_append, hdr]
      apply map_data_inj
      rw [List.map_append, show dotB = ⟨#[46]⟩ from rfl, pieces_data, pieces_data, pieces_data]
      rw [show (⟨#[46]⟩ : ByteArray) = dotB from rfl]
      conv => lhs; rw [hs2]
      exact split_app _ _ _ (Nat.le_refl _)
    refine ⟨⟨?_, ?_⟩, ?_⟩
    · rintro ⟨h1, h2⟩
      have h3 := h2.resolve_left h0
      unfold withinG belowB at h3
      simp only [Bool.and_eq_true, Bool.or_eq_true, decide_eq_true_eq] at h3
      rcases h3.2.2 with h4 | h4
      · subst h4; omega
      · exact h4
    · intro hp
      have h1 := key hp
      refine ⟨?_, .inr ?_⟩
      · rw [h1, List.length_append]
        have := List.length_pos_iff.2 (pieces_ne 46 (restB s (h ++ dotB)))
        have h2 : (piecesB dotB (restB s (h ++ dotB))).length = (piecesB ⟨#[46]⟩ (restB s (h ++ dotB))).length := rfl
        omega
      · rw [withinG_iff]
        exact ⟨hs, hh', by rw [h1]; exact List.prefix_append _ _⟩
    · intro hp
      rw [key hp, List.getElem?_append_right (Nat.le_refl _), Nat.sub_self]
      exact firstB_head _
theorem compareG_free {x y : ByteArray} (hx : ¬ (46 : UInt8) ∈ x.data.toList) (hy : ¬ (46 : UInt8) ∈ y.data.toList) : compareG x y < 0 ↔ lessS x y := by
  have one : ∀ {z : ByteArray}, ¬ (46 : UInt8) ∈ z.data.toList → piecesB dotB z = [z] := fun {z} hz => by
    apply map_data_inj
    rw [show dotB = ⟨#[46]⟩ from rfl, pieces_data, split_none (neq_of hz)]; rfl
  unfold compareG
  rw [one hx, one hy, cmpL, cmpL]
  have hc := cmpS_cases x y
  rw [← cmpS_lt]
  split <;> omega
theorem up_less {l : List ByteArray} (h : UpG l) (hf : ∀ x ∈ l, ¬ (46 : UInt8) ∈ x.data.toList) : l.Pairwise lessS :=
  List.Pairwise.imp_of_mem (fun {a b} ha hb hab => (compareG_free (hf a ha) (hf b hb)).1 hab) h
theorem hup0 : UpG [] := List.Pairwise.nil
theorem pieceV_zero (ea : Option Addr) (b cap sz : Nat) : pieceV ea 0 b cap sz = .slice ea b cap := by
  unfold pieceV
  rw [Nat.zero_mul, Nat.sub_zero, Nat.sub_zero]
  cases ea with
  | none => simp
  | some a => simp [Addr.add]
set_option maxRecDepth 100000
attribute [local irreducible] K KS KLeft KRound J OV EV EU Blk wpList Code.wp bodyPost Exit.then Exit.inBlock Round Left Hid JS wpStill wpHeld Calls
attribute [local irreducible] compareG piecesB errG checkG UpG joinB hasB restB firstB
theorem refWithin_any (n h : ByteArray) (r : World) (hn : n.size ≤ 9223372036854775807) (hh : h.size ≤ 9223372036854775807) : Calls Tryd.prog 32 #[.string n, .string h] r fun e w' => e = .returned (.bool (withinG n h)) ∧ Below r.heap.size r w' := by
  refine k_enter (N := 31) Tryd.func32 rfl rfl rfl ?_
  unfold withinG
  refine walkB ?_
  refine k_callb (v := .int .i64 (checkG n)) (by kernel_rfl) rfl rfl (fun w hw => refCheckG_any n w hn) ?_
  by_cases h1 : checkG n = 0
  · rw [h1]
    refine walkB ?_
    refine k_callb (v := .int .i64 (checkG h)) (by kernel_rfl) rfl rfl (fun w hw => refCheckG_any h w hh) ?_
    by_cases h2 : checkG h = 0
    · rw [h2]
      have hn80 := checkG_size h1
      have hh80 := checkG_size h2
      have hW := withinR n h h2
      have hl1 : (piecesB dotB n).length ≤ 10 := (checkG_iff.1 h1).2.2
      have hl2 : (piecesB dotB h).length ≤ 10 := (checkG_iff.1 h2).2.2
      refine walkB ?_
      refine k_callr (by kernel_rfl) rfl rfl (fun w hw => (refParts_any n 46 w (by omega)).mono fun e w' ⟨v, h1, _, h3⟩ => ⟨v, h1, own_up h3, h3.below rfl⟩) ?_
      intro v1
      refine walkB ?_
      refine k_callr (by kernel_rfl) rfl rfl (fun w hw => (refParts_any h 46 w (by omega)).mono fun e w' ⟨v, h1, _, h3⟩ => ⟨v, h1, own_up h3, h3.below rfl⟩) ?_
      intro v2
      refine k_rowslice 0 rfl ?_
      rintro ⟨ea2, cap2, rfl⟩
      refine k_rowsliceC 1 rfl ?_
      rintro ea1 cap1 rfl hcap1 -
      rw [show (⟨#[46]⟩ : ByteArray) = dotB from rfl] at hcap1
      rw [← hW]
      rw [show (⟨#[46]⟩ : ByteArray) = dotB from rfl]
      refine walkB ?_
      by_cases hlt : (piecesB dotB h).length ≤ (piecesB dotB n).length
      · rw [decide_eq_true hlt]
        have hjs : (joinB dotB ((piecesB dotB n).take (piecesB dotB h).length)).size ≤ 80 := by
          have h3 := joinB_take_le dotB (piecesB dotB n) (piecesB dotB h).length
          have h4 : joinB dotB (piecesB dotB n) = n := joinB_pieces 46 n
          rw [h4] at h3
          omega
        refine k_condd_f rfl (by omega) ?_
        refine walkB ?_
        refine k_op rfl (fun _ _ => ov_sliceto rfl rfl (piecesB dotB h).length rfl (by omega)) ?_
        refine walkB ?_
        refine k_callb (by kernel_rfl) rfl rfl (fun w hw => refText_any _ _ dotB w (strs_take (strs_of_row (hw.row 1 rfl)) _ hlt) (by rw [List.length_take]; omega) (by omega)) ?_
        refine walkB ?_
        exact k_ret1 rfl rfl fun w hw => ⟨rfl, hw.below rfl⟩
      · rw [decide_eq_false hlt]
        refine k_condd_t rfl (by omega) ?_
        refine walkB ?_
        exact k_ret1 rfl rfl fun w hw => ⟨rfl, hw.below rfl⟩
    · rw [decide_eq_false h2]
      refine walkB ?_
      exact k_ret1 rfl rfl fun w hw => ⟨rfl, hw.below rfl⟩
  · rw [decide_eq_false h1]
    refine walkB ?_
    exact k_ret1 rfl rfl fun w hw => ⟨rfl, hw.below rfl⟩
/-! Children. -/
theorem refChildren_any (v : Value) (l : List ByteArray) (h : ByteArray) (r : World) (hv : StrsAt r v l) (hl : ∀ s ∈ l, s.size ≤ 9223372036854775807) (hn : l.length ≤ 9223372036854775807) (hh : h.size ≤ 9223372036854775807) :
    Calls Tryd.prog 15 #[v, .string h] r fun e w' => ∃ s : Value × List ByteArray, e = .returned (.tuple #[s.1, .int .i64 (childErr l h : Nat)]) ∧ ChildOf l h s.2 ∧ Sat r [row false s.1 s.2.length (s.2.map Value.string) 9 1] w' := by
  have hN : childErr l h ≠ 0 → ChildOf l h [] := fun h => by unfold ChildOf; rw [if_neg h]
  have hY : childErr l h = 0 → ∀ m, m.Pairwise lessS → (∀ x, x ∈ m ↔ ∃ s ∈ l, hasB s (hierB h) = true ∧ firstB (restB s (hierB h)) = x) → ChildOf l h m := fun h m h1 h2 => by unfold ChildOf; rw [if_pos h]; exact ⟨h1, h2⟩
  refine k_enter (N := 68) Tryd.func15 rfl rfl rfl ?_
  apply k_join (σ := Unit) (fun _ => [(0, v), (1, .string h), (22, v)]) (fun _ => []) (fun _ => childErr l h = sortErr l ∧ (h = ByteArray.empty ∨ checkG h = 0))
  · intro key
    by_cases h0 : h = ⟨#[]⟩
    · refine walkB ?_
      exact key _ _ () (by repeat (first | exact Sub.nil | refine Sub.cons rfl ?_)) (by repeat (first | exact SubO.nil | refine SubO.keep ?_ | refine SubO.drop rfl ?_)) ⟨by unfold childErr; exact if_pos h0, .inl h0⟩
    · refine walkB ?_
      refine k_callb (v := .int .i64 (checkG h)) (by kernel_rfl) rfl rfl (fun w hw => refCheckG_any h w hh) ?_
      by_cases hc : checkG h = 0
      · rw [hc]
        refine walkB ?_
        exact key _ _ () (by repeat (first | exact Sub.nil | refine Sub.cons rfl ?_)) (by repeat (first | exact SubO.nil | refine SubO.keep ?_ | refine SubO.drop rfl ?_)) ⟨by unfold childErr; exact (if_neg h0).trans (if_pos hc), .inr hc⟩
      · have e2 : childErr l h = checkG h := by unfold childErr; exact (if_neg h0).trans (if_neg hc)
        refine walkB ?_
        refine k_callb (v := .int .i64 (checkG h)) (by kernel_rfl) rfl rfl (fun w hw => refCheckG_any h w hh) ?_
        refine walkB ?_
        exact k_ret2 rfl rfl rfl fun w hw => ⟨(.slice none 0 0, []), by rw [e2], hN (by rw [e2]; exact hc), sat_nil hw⟩
  rintro ⟨⟩ ⟨hce, hh0⟩
  rw [hce] at hN hY
  have hR : ∀ n : Nat, n = sortErr l → (.int .i64 (childErr l h : Nat) : Value) = .int .i64 (n : Int) := fun n e => by rw [hce, e]
  refine walkB ?_
  refine k_call (by kernel_rfl) rfl rfl (fun w hw => refSort_any v l w (hv.ext (hw.below rfl)) hl hn) ?_
  rintro w e w' hw ⟨⟨av, all⟩, rfl, hso, hw'⟩
  refine ⟨_, rfl, j_of_k (hw.join hw' rfl) ?_⟩
  dsimp only
  show K 68 _ r [row false av all.length (all.map Value.string) 9 1] _
  by_cases hse : sortErr l = 0
  · unfold SortOf at hso
    rw [if_pos hse] at hso
    have hY' := hY hse
    rw [hse]
    have hck : ∀ s ∈ all, checkG s = 0 := fun s hs => errG_zero.1 (sortErr_zero hse).2 s ((hso.2.1 s).1 hs)
    have hall : ∀ s ∈ all, s.size ≤ 80 := fun s hs => checkG_size (hck s hs)
    have hlen : all.length ≤ 4096 := by have h1 := (sortErr_zero hse).1; have h2 := hso.2.2; dsimp only at h2; omega
    have hd10 : depthB h ≤ 10 := by
      unfold depthB
      split
      · omega
      · rename_i h1
        exact (checkG_iff.1 (hh0.resolve_left h1)).2.2
    refine k_rowslice 0 rfl ?_
    rintro ⟨ea, cap, rfl⟩
    apply k_join (σ := Unit) (fun _ => [(1, .string h), (6, .slice ea all.length cap), (8, .int .i64 (depthB h : Nat)), (9, .slice none 0 0), (10, .int .i64 0)]) (fun _ => [row false (.slice ea all.length cap) all.length (all.map Value.string) 9 1]) (fun _ => True)
    · intro key
      by_cases h0 : h = ⟨#[]⟩
      · have hd : depthB h = 0 := by unfold depthB; exact if_pos h0
        rw [hd] at key
        refine walkB ?_
        exact key _ _ () (by repeat (first | exact Sub.nil | refine Sub.cons rfl ?_)) (by repeat (first | exact SubO.nil | refine SubO.keep ?_ | refine SubO.drop rfl ?_)) trivial
      · have hd : depthB h = (piecesB dotB h).length := by unfold depthB; exact if_neg h0
        have hh80 := checkG_size (hh0.resolve_left h0)
        rw [hd] at key
        refine walkB ?_
        refine k_callr (by kernel_rfl) rfl rfl (fun w hw => (refParts_any h 46 w (by omega)).mono fun e w' ⟨v, h1, _, h3⟩ => ⟨v, h1, own_up h3, h3.below rfl⟩) ?_
        intro v2
        refine k_rowslice 0 rfl ?_
        rintro ⟨ea2, cap2, rfl⟩
        refine walkB ?_
        exact key _ _ () (by repeat (first | exact Sub.nil | refine Sub.cons rfl ?_)) (by repeat (first | exact SubO.nil | refine SubO.keep ?_ | refine SubO.drop rfl ?_)) trivial
    rintro ⟨⟩ -
    refine k_nilrow 9 1 ?_
    refine k_loop (σ := Nat × Value × List ByteArray) (fun t => [(1, .string h), (6, .slice ea all.length cap), (8, .int .i64 (depthB h : Nat)), (9, t.2.1), (10, .int .i64 t.1)]) (fun t => [row false t.2.1 t.2.2.length (t.2.2.map Value.string) 9 1, row false (.slice ea all.length cap) all.length (all.map Value.string) 9 1])
      (fun t => t.1 ≤ all.length ∧ t.2.2.length ≤ t.1 ∧ UpG t.2.2 ∧ ∀ x, x ∈ t.2.2 ↔ ∃ s ∈ all.take t.1, hasB s (hierB h) = true ∧ firstB (restB s (hierB h)) = x) (fun t => all.length - t.1) (0, .slice none 0 0, []) (by repeat (first | exact Sub.nil | refine Sub.cons rfl ?_)) (by repeat (first | exact SubO.nil | refine SubO.keep ?_ | refine SubO.drop rfl ?_)) ⟨Nat.zero_le _, Nat.le_refl _, hup0, by simp⟩ ?_
    rintro ⟨k, ov, out⟩ ⟨hk, hL, hU, hM⟩
    dsimp only at hk hL hU hM ⊢
    have hin : ∀ x ∈ out, ∃ s, checkG s = 0 ∧ x ∈ piecesB dotB s := fun x hx => by
      obtain ⟨s, hs, h1, h2⟩ := (hM x).1 hx
      have h3 := hck s (List.mem_of_mem_take hs)
      refine ⟨s, h3, ?_⟩
      have h4 := (child_has h3 hh0).2 h1
      rw [h2] at h4
      exact List.mem_of_getElem? h4
    by_cases hlt : k < all.length
    · refine k_rowsomeG 1 (by omega) rfl ?_
      rintro ⟨gb, c', hg⟩
      injection hg with hg _ hc; subst hg hc
      have hvk : (all.map Value.string)[k]? = some (.string all[k]) := by rw [List.getElem?_map, List.getElem?_eq_getElem hlt]; rfl
      have hsz := hall all[k] (List.getElem_mem hlt)
      have hch := child_has (hck all[k] (List.getElem_mem hlt)) hh0
      have hpl := (checkG_iff.1 (hck all[k] (List.getElem_mem hlt))).2.2
      have hM2 : ∀ x, (∃ s ∈ all.take (k + 1), hasB s (hierB h) = true ∧ firstB (restB s (hierB h)) = x) ↔ (∃ s ∈ all.take k, hasB s (hierB h) = true ∧ firstB (restB s (hierB h)) = x) ∨ (hasB all[k] (hierB h) = true ∧ firstB (restB all[k] (hierB h)) = x) := by
        intro x
        rw [List.take_succ_eq_append_getElem hlt]
        simp only [List.mem_append, List.mem_singleton]
        constructor
        · rintro ⟨s, hs | rfl, h2⟩
          · exact .inl ⟨s, hs, h2⟩
          · exact .inr h2
        · rintro (⟨s, hs, h2⟩ | h2)
          · exact ⟨s, .inl hs, h2⟩
          · exact ⟨_, .inr rfl, h2⟩
      generalize all[k] = s at hvk hsz hM2 hch hpl
      have hMf : hasB s (hierB h) = false → ∀ x, x ∈ out ↔ ∃ s ∈ all.take (k + 1), hasB s (hierB h) = true ∧ firstB (restB s (hierB h)) = x := fun hb x => by
        rw [hM2 x, hM x, hb]; simp
      refine walkB ?_
      refine k_op rfl (fun w hw => ov_rowG 1 hw inferInstance rfl rfl hvk) ?_
      refine walkB ?_
      refine k_callr (by kernel_rfl) rfl rfl (fun w hw => (refParts_any s 46 w (by omega)).mono fun e w' ⟨v, h1, _, h3⟩ => ⟨v, h1, own_up h3, h3.below rfl⟩) ?_
      intro xv
      rw [show (⟨#[46]⟩ : ByteArray) = dotB from rfl]
      refine k_rowslice 0 rfl ?_
      rintro ⟨eax, capx, rfl⟩
      apply k_join (σ := Unit) (fun _ => [(1, .string h), (6, .slice (some ⟨gb, 0, none⟩) all.length cap), (8, .int .i64 (depthB h : Nat)), (9, ov), (10, .int .i64 k), (11, .slice eax (piecesB dotB s).length capx), (61, ov), (62, .slice eax (piecesB dotB s).length capx), (63, .int .i64 (depthB h : Nat))]) (fun _ => [row false (.slice eax (piecesB dotB s).length capx) (piecesB dotB s).length ((piecesB dotB s).map Value.string) 9 1, row false ov out.length (out.map Value.string) 9 1, row false (.slice (some ⟨gb, 0, none⟩) all.length cap) all.length (all.map Value.string) 9 1]) (fun _ => hasB s (hierB h) = true)
      · intro key
        by_cases hd : depthB h < (piecesB dotB s).length
        · by_cases h0 : h = ⟨#[]⟩
          · have hb : hasB s (hierB h) = true := hch.1.1 ⟨hd, .inl h0⟩
            refine walkB ?_
            exact key _ _ () (by repeat (first | exact Sub.nil | refine Sub.cons rfl ?_)) (by repeat (first | exact SubO.nil | refine SubO.keep ?_ | refine SubO.drop rfl ?_)) hb
          · have hb : withinG s h = hasB s (hierB h) := by
              rw [Bool.eq_iff_iff, ← hch.1]
              exact ⟨fun h1 => ⟨hd, .inr h1⟩, fun h1 => h1.2.resolve_left h0⟩
            refine walkB ?_
            refine k_op rfl (fun w hw => ov_rowG 2 hw inferInstance rfl rfl hvk) ?_
            refine walkB ?_
            refine k_callb (by kernel_rfl) rfl rfl (fun w hw => refWithin_any s h w (by omega) hh) ?_
            rw [hb]
            cases hb2 : hasB s (hierB h) with
            | true =>
              refine walkB ?_
              exact key _ _ () (by repeat (first | exact Sub.nil | refine Sub.cons rfl ?_)) (by repeat (first | exact SubO.nil | refine SubO.keep ?_ | refine SubO.drop rfl ?_)) hb2
            | false =>
              refine walkB ?_
              exact k_round (k + 1, ov, out) (by repeat (first | exact Sub.nil | refine Sub.cons rfl ?_)) (by repeat (first | exact SubO.nil | refine SubO.keep ?_ | refine SubO.drop rfl ?_)) ⟨by dsimp only; omega, by dsimp only; omega, hU, hMf hb2⟩ (by dsimp only; omega)
        · have hb : hasB s (hierB h) = false := Bool.eq_false_iff.2 fun h1 => hd (hch.1.2 h1).1
          refine walkB ?_
          exact k_round (k + 1, ov, out) (by repeat (first | exact Sub.nil | refine Sub.cons rfl ?_)) (by repeat (first | exact SubO.nil | refine SubO.keep ?_ | refine SubO.drop rfl ?_)) ⟨by dsimp only; omega, by dsimp only; omega, hU, hMf hb⟩ (by dsimp only; omega)
      rintro ⟨⟩ hb
      have hget := hch.2 hb
      have hd := (hch.1.2 hb).1
      have hgm : firstB (restB s (hierB h)) ∈ piecesB dotB s := List.mem_of_getElem? hget
      have hgs := piece_le s _ hgm
      have hgv : ((piecesB dotB s).map Value.string)[depthB h]? = some (.string (firstB (restB s (hierB h)))) := by rw [List.getElem?_map, hget]; rfl
      refine k_rowsomeG 0 (by omega) rfl ?_
      rintro ⟨gx, cx, hgx⟩
      injection hgx with hgx _ hcx; subst hgx hcx
      refine walkB ?_
      refine k_op rfl (fun w hw => ov_rowG 0 hw inferInstance rfl rfl hgv) ?_
      refine walkB ?_
      refine k_call (by kernel_rfl) rfl rfl (fun w hw => insert_any ov out _ w (hw.row 1 rfl) (fun y hy => by
        obtain ⟨s2, h3, h4⟩ := hin y hy
        have h5 := piece_le s2 y h4
        have h6 := checkG_size h3
        omega) (by omega) (by omega)) ?_
      have hlen3 := insG_len (firstB (restB s (hierB h))) out
      have hup3 := insG_up (firstB (restB s (hierB h))) hU
      have hmem3 : ∀ x, x ∈ insG (firstB (restB s (hierB h))) out ↔ ∃ s ∈ all.take (k + 1), hasB s (hierB h) = true ∧ firstB (restB s (hierB h)) = x := fun x => by
        rw [insG_mem, hM x, hM2 x, hb]
        constructor
        · rintro (rfl | h2)
          · exact .inr ⟨rfl, rfl⟩
          · exact .inl h2
        · rintro (h2 | ⟨_, h2⟩)
          · exact .inr h2
          · exact .inl h2.symm
      rintro w e w' hw ⟨v', rfl, ⟨rfl, h1, hB⟩ | hw'⟩
      · refine ⟨_, rfl, j_of_k (hw.ext hB) ?_⟩
        rw [h1] at hlen3 hup3 hmem3
        refine walkB ?_
        refine k_round (k + 1, v', out) (by repeat (first | exact Sub.nil | refine Sub.cons rfl ?_)) (by repeat (first | exact SubO.nil | refine SubO.keep ?_ | refine SubO.drop rfl ?_)) ⟨by dsimp only; omega, by dsimp only; omega, hup3, hmem3⟩ (by dsimp only; omega)
      · refine ⟨_, rfl, j_of_k (hw.join hw' rfl) ?_⟩
        refine walkB ?_
        refine k_round (k + 1, v', insG (firstB (restB s (hierB h))) out) (by repeat (first | exact Sub.nil | refine Sub.cons rfl ?_)) (by repeat (first | exact SubO.nil | refine SubO.keep ?_ | refine SubO.drop rfl ?_)) ⟨by dsimp only; omega, by dsimp only; omega, hup3, hmem3⟩ (by dsimp only; omega)
    · have hkl : k = all.length := by omega
      subst hkl
      rw [List.take_length] at hM
      have hfin := hY' out (up_less hU fun x hx => by
        obtain ⟨s, _, h2⟩ := hin x hx
        exact pieces_free h2) (fun x => by
        rw [hM x]
        constructor
        · rintro ⟨s, hs, h3⟩; exact ⟨s, (hso.2.1 s).1 hs, h3⟩
        · rintro ⟨s, hs, h3⟩; exact ⟨s, (hso.2.1 s).2 hs, h3⟩)
      refine walkB ?_
      exact k_ret2 rfl rfl rfl fun w hw => ⟨(ov, out), by rw [hR 0 hse.symm]; rfl, hfin, hw.sub (by repeat (first | exact SubO.nil | refine SubO.keep ?_ | refine SubO.drop rfl ?_))⟩
  · unfold SortOf at hso
    rw [if_neg hse] at hso
    subst hso
    refine walkB ?_
    exact k_ret2 rfl rfl rfl fun w hw => ⟨(.slice none 0 0, []), by rw [hR _ rfl], hN hse, sat_nil (hw.sub (.drop rfl .nil))⟩
end Go.Proofs.YtdolgoplflpbgaaDoor
