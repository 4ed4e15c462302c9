/- The walk of FeedruleLater. -/
import Derived.Test.YtddiecdoaggaaaaDoorFeedL
import Derived.Test.YtddiecdoaggaaaaDoorFeedM
namespace Go.Proofs.YtddiecdoaggaaaaDoor
open Go.RowKit Go.Sort

theorem of_cut {as1 its : List ItX} (h : as1.map noG = (its.take 20).map cutG) {x : ItX} (hx : x ∈ as1) : ∃ y ∈ its, x.gs = y.gs.take 20 ∧ x.a = y.a := by
  have h1 : noG x ∈ (its.take 20).map cutG := h ▸ List.mem_map_of_mem hx
  obtain ⟨y, hy, e⟩ := List.mem_map.1 h1
  exact ⟨y, List.mem_of_mem_take hy, (congrArg ItX.gs e).symm, (congrArg ItX.a e).symm⟩
theorem len_cut {as1 its : List ItX} (h : as1.map noG = (its.take 20).map cutG) : as1.length ≤ 20 := by
  have := congrArg List.length h
  simp at this
  omega
theorem dueNow_mono {nb : ByteArray} {mb dl : Int} {dists : List ByteArray} {items : List (Nat × List Elem)} {now later : Int} (h : now ≤ later) {x : ItX} {y : DueX} (hy : dueNow nb mb dl dists items now x = some y) : dueNow nb mb dl dists items later x = some y := by
  unfold dueNow at *
  split at hy
  · rename_i h1
    rw [if_pos h1]
    split at hy
    · rename_i h2
      rw [if_pos (by omega)]
      exact hy
    · cases hy
  · cases hy
theorem selL_mem {nb : ByteArray} {mb dl : Int} {dists : List ByteArray} {items : List (Nat × List Elem)} {now : Int} {its : List ItX} {i : Id32} : i ∈ selL nb mb dl dists items now its ↔ ∃ x ∈ its, ∃ y, dueNow nb mb dl dists items now x = some y ∧ y.1 = i := by
  unfold selL
  rw [onceL_mem, List.mem_map]
  constructor
  · rintro ⟨y, hy, rfl⟩
    rw [List.mem_mergeSort] at hy
    obtain ⟨x, hx, h⟩ := List.mem_filterMap.1 hy
    exact ⟨x, hx, y, h, rfl⟩
  · rintro ⟨x, hx, y, hy, rfl⟩
    exact ⟨y, List.mem_mergeSort.2 (List.mem_filterMap.2 ⟨x, hx, hy⟩), rfl⟩
theorem selL_mono {nb : ByteArray} {mb dl : Int} {dists : List ByteArray} {items : List (Nat × List Elem)} {now later : Int} (h : now ≤ later) {its : List ItX} {i : Id32} (hi : i ∈ selL nb mb dl dists items now its) : i ∈ selL nb mb dl dists items later its := by
  obtain ⟨x, hx, y, hy, e⟩ := selL_mem.1 hi
  exact selL_mem.2 ⟨x, hx, y, dueNow_mono h hy, e⟩
theorem selL_len {nb : ByteArray} {mb dl : Int} {dists : List ByteArray} {items : List (Nat × List Elem)} {now : Int} {its : List ItX} : (selL nb mb dl dists items now its).length ≤ its.length := by
  unfold selL
  refine Nat.le_trans (onceL_len _) ?_
  rw [List.length_map, List.length_mergeSort]
  exact List.length_filterMap_le _ _
/-- What the items of an argument are. -/
def ItX.Fit (w : World) (x : ItX) : Prop := x.Arg w ∧ (∀ s ∈ x.gs, s.size ≤ 9223372036854775807) ∧ -9223372036854775808 ≤ x.a ∧ x.a ≤ 9223372036854775807
theorem ok_of_cut {as1 its : List ItX} {L : List (Value × List ByteArray)} {r w : World} (h : as1.map noG = (its.take 20).map cutG) (hok : ∀ x ∈ its, x.Fit r) (hL : ∀ p ∈ L, w.ownsRow 0 9 1 p.1 p.2.length (p.2.map Value.string)) (hm : ∀ x ∈ as1, pairG x ∈ L) : ∀ x ∈ as1, x.Ok w := by
  intro x hx
  obtain ⟨y, hy, e1, e2⟩ := of_cut h hx
  obtain ⟨_, h2, h3, h4⟩ := hok y hy
  refine ⟨strs_of_row (hL _ (hm x hx)), fun s hs => h2 s (List.mem_of_mem_take (e1 ▸ hs)), ?_, by rw [e2]; exact h3, by rw [e2]; exact h4⟩
  rw [e1, List.length_take]
  omega
theorem spot_own {w : World} {base n cap sz : Nat} {e : TypeId} {ea : Option Addr} {cs : List Value} (h : w.ownsRow base e sz (.slice ea n cap) n cs) : ∀ a, ea = some a → a.spot = none := by
  intro a ha
  obtain ⟨_, h2⟩ := h
  rcases h2 with ⟨h3, _⟩ | ⟨g, cap', cur, h3, _⟩
  · injection h3 with h4; rw [h4] at ha; cases ha
  · injection h3 with h4; rw [h4] at ha; cases ha; rfl
set_option maxRecDepth 100000
attribute [local irreducible] K KS KLeft KRound J OV EV EU Blk wpList Code.wp bodyPost Exit.then Exit.inBlock Round Left Hid JS wpStill wpHeld Calls
attribute [local irreducible] reasonP dueP selL
set_option maxHeartbeats 8000000 in
theorem later_any (nb pats : ByteArray) (mb dl : Int) (dv : Value) (dists : List ByteArray) (ea : Option Addr) (cap : Nat) (its : List ItX) (now1 now2 : Int) (m : Int) (r : World) (hm : r.cell? ⟨0, 0, none⟩ = some (.int .i64 m))
    (hnb : nb.size ≤ maxLen) (hps : pats.size ≤ maxLen) (hd : StrsAt r dv dists) (hdn : dists.length ≤ maxLen) (hds : ∀ s ∈ dists, s.size ≤ maxLen) (hI : RowIs r ea its.length cap 38 (its.flatMap ItX.cells)) (hok : ∀ x ∈ its, x.Fit r) (hn : its.length ≤ 9223372036854775807) :
    Calls Tryd.prog 7 #[.agg #[.string nb, .string pats, .int .i64 mb, .int .i64 dl, dv], .slice ea its.length cap, .int .i64 now1, .int .i64 now2] r fun e w' => e = .returned (.bool true) ∧ Below r.heap.size r w' := by
  have hdv : dv.oneCell' = true := by obtain ⟨_, _, rfl, _⟩ := hd; rfl
  have hds' : ∀ s ∈ dists.take 10, s.size ≤ 9223372036854775807 := fun s hs => by have := hds s (List.mem_of_mem_take hs); unfold maxLen at this; omega
  have hd10 : (dists.take 10).length ≤ 2000000 := by rw [List.length_take]; omega
  refine k_enter (N := 82) Tryd.func7 rfl rfl rfl ?_
  refine walkB ?_
  refine k_box (cs := [.string nb, .string pats, .int .i64 mb, .int .i64 dl, dv]) rfl rfl rfl ?_
  intro rb
  refine walkB ?_
  refine k_callS (σ := Value × Value) (val := fun s => .tuple #[.agg #[.string (cut nb 40), .string (cut pats 300), .int .i64 mb, .int .i64 dl, s.1], .agg #[.string (cut nb 40), .string (cut pats 300), .int .i64 mb, .int .i64 dl, s.2]]) (ok := fun _ => True) (own := fun s => [row false s.1 (dists.take 10).length ((dists.take 10).map Value.string) 9 1, row false s.2 (dists.take 10).length ((dists.take 10).map Value.string) 9 1]) (fun _ => rfl) (by kernel_rfl) rfl rfl
    (fun w hw => (to_any nb pats mb dl dv dists w hnb hps (hd.ext (hw.below rfl)) hdn).mono fun e w' ⟨v1, v2, h1, h2⟩ => ⟨(v1, v2), h1, trivial, h2⟩) ?_
  rintro ⟨v1, v2⟩ -
  dsimp only [List.cons_append, List.nil_append]
  have hnb' := cut_size nb 40
  have hps' := cut_size pats 300
  generalize cut nb 40 = nb' at hnb'
  generalize cut pats 300 = pats' at hps'
  generalize dists.take 10 = l10 at hds' hd10
  refine k_rowslice 0 rfl ?_
  rintro ⟨e1, c1, rfl⟩
  refine k_rowslice 1 rfl ?_
  rintro ⟨e2, c2, rfl⟩
  refine walkB ?_
  refine k_alloc (cs := [.string ⟨#[]⟩, .string ⟨#[]⟩, .int .i64 0, .int .i64 0, .slice none 0 0]) rfl rfl ?_
  intro tb
  refine walkB ?_
  refine k_alloc (cs := [.string ⟨#[]⟩, .string ⟨#[]⟩, .int .i64 0, .int .i64 0, .slice none 0 0]) rfl rfl ?_
  intro ub
  refine k_stE1 [.string nb', .string pats', .int .i64 mb, .int .i64 dl, .slice e1 l10.length c1] rfl rfl rfl rfl rfl rfl (by rfl) ?_
  refine k_stE0 [.string nb', .string pats', .int .i64 mb, .int .i64 dl, .slice e2 l10.length c2] rfl rfl rfl rfl rfl rfl (by rfl) ?_
  refine walkB ?_
  have hms : maxLen = 9223372036854775807 := rfl
  refine k_call (by kernel_rfl) rfl rfl (fun w hw => feedCompile_any nb' pats' mb dl (.slice e1 l10.length c1) l10 m w (by omega) (by omega) (strs_of_row (hw.row 2 rfl)) hds' hd10 (cell_ext (hw.below rfl) hm)) ?_
  rintro w e w1 hw ⟨hx1, hno, hyes⟩
  have hS1 := hw.ext hx1
  have hB1 := hS1.below rfl
  have hm1 := cell_ext hB1 hm
  by_cases hck : checkP nb'.data.toList pats'.data.toList mb dl l10 = 0
  · obtain ⟨fb, items, hP, -, hF, rfl⟩ := hyes hck
    have hdl := check_dl hck
    refine ⟨_, rfl, ?_⟩
    have hI1 := hI.ext hB1
    have hok1 : ∀ x ∈ its, x.Fit w1 := fun x hx => by
      obtain ⟨⟨xe, xc, h1, h2, h3⟩, h5⟩ := hok x hx
      exact ⟨⟨xe, xc, h1, h2.ext hB1, h3⟩, h5⟩
    refine j_of_k (Sat.refl w1) ?_
    by_cases h12 : now2 < now1
    · refine walkB ?_
      refine k_callb (v := .bool true) (by kernel_rfl) rfl rfl (fun w hw => known_any m w (cell_ext (hw.below rfl) hm1)) ?_
      refine walkB ?_
      exact k_ret1 rfl rfl fun w hw => ⟨rfl, hB1.trans ((hw.below rfl).mono hB1.size)⟩
    · refine walkB ?_
      refine k_callS (σ := Value × Value × List ItX × List ItX × List (Value × List ByteArray)) (val := fun s => .tuple #[s.1, s.2.1]) (ok := fun s => s.2.2.1.map noG = (its.take 20).map cutG ∧ s.2.2.2.1.map noG = (its.take 20).map cutG ∧ ∀ x, (x ∈ s.2.2.1 ∨ x ∈ s.2.2.2.1) → pairG x ∈ s.2.2.2.2) (own := fun s => [grpO s.2.2.2.2, row false s.1 s.2.2.1.length (s.2.2.1.flatMap ItX.cells) 39 38, row false s.2.1 s.2.2.2.1.length (s.2.2.2.1.flatMap ItX.cells) 27 38]) (fun _ => rfl) (by kernel_rfl) rfl rfl
        (fun w hw => items_any ea cap its w (hI1.ext (hw.below rfl)) (fun x hx => by
          obtain ⟨xe, xc, h1, h2, h3⟩ := (hok1 x hx).1
          exact ⟨xe, xc, h1, h2.ext (hw.below rfl), h3⟩) hn) ?_
      rintro ⟨av, bv, as1, bs1, L⟩ ⟨hA, -, hL⟩
      dsimp only [List.cons_append, List.nil_append] at hA hL ⊢
      refine k_rowsliceC 1 rfl ?_
      rintro ea3 c3 rfl - -
      refine walkB ?_
      have hAl := len_cut hA
      refine k_callS (σ := Value) (val := fun s => s) (ok := fun _ => True) (own := fun v => [row false v (selL nb' mb dl l10 items now1 as1).length ((selL nb' mb dl l10 items now1 as1).flatMap idC) 37 32]) (fun _ => rfl) (by kernel_rfl) rfl rfl
        (fun w hw => select_any (hF.ext (hw.below rfl)) hd10 hdl ea3 c3 as1 now1 (rowIs_own (hw.row 1 rfl)) (spot_own (hw.row 1 rfl)) (ok_of_cut hA hok1 ((hw.all (grpO L) (by simp)).1) fun x hx => hL x (.inl hx)) (by omega)) ?_
      intro v1 _
      dsimp only [List.cons_append, List.nil_append]
      refine walkB ?_
      refine k_callS (σ := Value) (val := fun s => s) (ok := fun _ => True) (own := fun v => [row false v (selL nb' mb dl l10 items now2 as1).length ((selL nb' mb dl l10 items now2 as1).flatMap idC) 37 32]) (fun _ => rfl) (by kernel_rfl) rfl rfl
        (fun w hw => select_any (hF.ext (hw.below rfl)) hd10 hdl ea3 c3 as1 now2 (rowIs_own (hw.row 2 rfl)) (spot_own (hw.row 2 rfl)) (ok_of_cut hA hok1 ((hw.all (grpO L) (by simp)).1) fun x hx => hL x (.inl hx)) (by omega)) ?_
      intro v2 _
      dsimp only [List.cons_append, List.nil_append]
      have hsub : ∀ i, i ∈ selL nb' mb dl l10 items now1 as1 → i ∈ selL nb' mb dl l10 items now2 as1 := fun i hi => selL_mono (by omega) hi
      have hl1 : (selL nb' mb dl l10 items now1 as1).length ≤ 20 := Nat.le_trans selL_len hAl
      have hl2 : (selL nb' mb dl l10 items now2 as1).length ≤ 20 := Nat.le_trans selL_len hAl
      generalize selL nb' mb dl l10 items now1 as1 = S1 at hsub hl1
      generalize selL nb' mb dl l10 items now2 as1 = S2 at hsub hl2
      refine k_rowsliceC 1 rfl ?_
      rintro ea4 c4 rfl - -
      refine k_rowsliceC 0 rfl ?_
      rintro ea5 c5 rfl - -
      refine walkB ?_
      refine k_loop (σ := Nat) (fun k => [(15, .slice ea4 S1.length c4), (16, .slice ea5 S2.length c5), (17, .int .i64 k)]) (fun _ => [row false (.slice ea5 S2.length c5) S2.length (S2.flatMap idC) 37 32, row false (.slice ea4 S1.length c4) S1.length (S1.flatMap idC) 37 32]) (fun k => k ≤ S1.length) (fun k => S1.length - k) 0 (by repeat (first | exact Sub.nil | refine Sub.cons rfl ?_)) (by repeat (first | exact SubO.nil | refine SubO.keep ?_ | refine SubO.drop rfl ?_)) (Nat.zero_le _) ?_
      intro k hk
      by_cases hlt : k < S1.length
      · have hcs := flat_cells idC_len (List.getElem?_eq_getElem hlt)
        have hx2 := hsub _ (List.getElem_mem hlt)
        generalize S1[k] = x at hcs hx2
        refine k_rowsome 1 (by omega) rfl ?_
        intro g4 c4' he _
        injection he with he1 he2 he3
        subst he1 he3
        refine walkB ?_
        refine k_loop (σ := Nat) (fun j => [(15, .slice (some ⟨g4, 0, none⟩) S1.length c4), (16, .slice ea5 S2.length c5), (17, .int .i64 k), (18, .bool ((S2.take j).any fun y => decide (y = x))), (19, .int .i64 j)]) (fun _ => [row false (.slice ea5 S2.length c5) S2.length (S2.flatMap idC) 37 32, row false (.slice (some ⟨g4, 0, none⟩) S1.length c4) S1.length (S1.flatMap idC) 37 32]) (fun j => j ≤ S2.length) (fun j => S2.length - j) 0 (by repeat (first | exact Sub.nil | refine Sub.cons rfl ?_)) (by repeat (first | exact SubO.nil | refine SubO.keep ?_ | refine SubO.drop rfl ?_)) (Nat.zero_le _) ?_
        intro j hj
        by_cases hlt2 : j < S2.length
        · have hcs2 := flat_cells idC_len (List.getElem?_eq_getElem hlt2)
          have hsn : ((S2.take (j + 1)).any fun y => decide (y = x)) = ((S2.take j).any (fun y => decide (y = x)) || decide (S2[j] = x)) := by
            rw [List.take_succ_eq_append_getElem hlt2, List.any_append, List.any_cons, List.any_nil, Bool.or_false]
          generalize S2[j] = y at hcs2 hsn
          refine k_rowsome 0 (by omega) rfl ?_
          intro g5 c5' he _
          injection he with he1 he2 he3
          subst he1 he3
          generalize (S2.take j).any (fun y => decide (y = x)) = fd at hsn
          cases fd with
          | true =>
            rw [Bool.true_or] at hsn
            refine walkB ?_
            refine k_held 13 [0, 1, 2, 3, 4, 5, 6, 7, 8, 9, 10, 11, 12] (by kernel_rfl) (by kernel_rfl) ?_
            dsimp only [pickL, nth, List.drop]
            refine hwalkB ?_
            refine walkB ?_
            refine k_round (j + 1) (by rw [hsn]; exact (by repeat (first | exact Sub.nil | refine Sub.cons rfl ?_))) (by repeat (first | exact SubO.nil | refine SubO.keep ?_ | refine SubO.drop rfl ?_)) (by omega) (by omega)
          | false =>
            rw [Bool.false_or] at hsn
            refine walkB ?_
            refine k_held 13 [0, 1, 2, 3, 4, 5, 6, 7, 8, 9, 10, 11, 12] (by kernel_rfl) (by kernel_rfl) ?_
            dsimp only [pickL, nth, List.drop]
            refine hwalkB ?_
            refine kh_yes rfl rfl rfl rfl rfl (fun w hw => ov_rowAgg (rowIs_own (hw.row 0 rfl)) (by rw [Nat.zero_add]; rfl) (idC_len y) hcs2) ?_
            refine hwalkB ?_
            refine kh_yes rfl rfl rfl rfl rfl (fun w hw => ov_rowAgg (rowIs_own (hw.row 1 rfl)) (by rw [Nat.zero_add]; rfl) (idC_len x) hcs) ?_
            refine kh_yes rfl rfl rfl rfl rfl (fun w hw => ov_bytesEq (a := y.1) (b := x.1) (by kernel_rfl) rfl rfl y.2 x.2) ?_
            rw [show decide (y.1 = x.1) = decide (y = x) from decide_eq_decide.2 ⟨Subtype.ext, congrArg _⟩]
            refine hwalkB ?_
            refine walkB ?_
            refine k_round (j + 1) (by rw [hsn]; exact (by repeat (first | exact Sub.nil | refine Sub.cons rfl ?_))) (by repeat (first | exact SubO.nil | refine SubO.keep ?_ | refine SubO.drop rfl ?_)) (by omega) (by omega)
        · have hjl : j = S2.length := by omega
          subst hjl
          rw [List.take_length, show (S2.any fun y => decide (y = x)) = true from List.any_eq_true.2 ⟨x, hx2, decide_eq_true rfl⟩]
          refine walkB ?_
          refine k_round (k + 1) (by repeat (first | exact Sub.nil | refine Sub.cons rfl ?_)) (by repeat (first | exact SubO.nil | refine SubO.keep ?_ | refine SubO.drop rfl ?_)) (by omega) (by omega)
      · refine walkB ?_
        refine k_callb (v := .bool true) (by kernel_rfl) rfl rfl (fun w hw => known_any m w (cell_ext (hw.below rfl) hm1)) ?_
        refine walkB ?_
        exact k_ret1 rfl rfl fun w hw => ⟨rfl, hB1.trans ((hw.below rfl).mono hB1.size)⟩
  · rw [hno hck]
    refine ⟨_, rfl, ?_⟩
    have hz := hck
    generalize hzz : checkP nb'.data.toList pats'.data.toList mb dl l10 = z at hz
    refine j_of_k hS1 ?_
    refine walkB ?_
    refine k_callb (v := .bool true) (by kernel_rfl) rfl rfl (fun w hw => known_any m w (cell_ext (hw.below rfl) hm)) ?_
    refine walkB ?_
    exact k_ret1 rfl rfl fun w hw => ⟨rfl, hw.below rfl⟩
end Go.Proofs.YtddiecdoaggaaaaDoor
