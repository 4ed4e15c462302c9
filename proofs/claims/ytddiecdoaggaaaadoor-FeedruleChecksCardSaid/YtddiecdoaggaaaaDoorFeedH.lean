/- The walk of FeedruleChecks. -/
import Derived.Test.YtddiecdoaggaaaaDoorRefK
import Derived.Test.YtddiecdoaggaaaaDoorFeedC2
namespace Go.Proofs.YtddiecdoaggaaaaDoor
open Go.RowKit

/-- An element of a row. -/
theorem ov_row {P : Program} {env : Env} {r w : World} {O : List Own} {f : Bool} {g n cap j : Nat} {xs : List Value} {e t : TypeId} {x : Operand} {u : Value} (i : Nat) (hw : Sat r O w) (_hg : TAgg P t false) (hx : evx env x = some (.pointer (some ⟨g, j, none⟩))) (hO : nthO O i = some (row f (.slice (some ⟨g, 0, none⟩) n cap) n xs e 1)) (hv : xs[j]? = some u) : OV P env (.load t x) w u := by
  have h := (hw.row i hO).cells (g := g) rfl j u hv
  rw [addr_add, Nat.zero_add] at h
  exact ov_load1 hx h
theorem k_rowsetG {P : Program} {N : Nat} {env : Env} {r : World} {Q : Exit → Act → World → Prop} {ops : Array Oper} {rest : List Oper} {ty : TypeId} {pos : String} {after : Array Edge} {A C : List Own} {g n cap j : Nat} {xs : List Value} {e t : TypeId} {x y : Operand} {u : Value} [TSize P t 1] (hx : evx env x = some (.pointer (some ⟨g, j, none⟩))) (hy : evx env y = some u) (h1 : u.oneCell' = true) (hj : j < n)
    (h : K N env r (A ++ row false (.slice (some ⟨g, 0, none⟩) n cap) n (xs.set j u) e 1 :: C) (wpList P ops Q rest)) : K N env r (A ++ row false (.slice (some ⟨g, 0, none⟩) n cap) n xs e 1 :: C) (wpList P ops Q (⟨none, .store t x y, ty, pos, after, none⟩ :: rest)) := by
  intro w hw
  have hown : w.ownsRow 0 e 1 (.slice (some ⟨g, 0, none⟩) n cap) n xs := (hw.all (row false (.slice (some ⟨g, 0, none⟩) n cap) n xs e 1) (by simp)).1
  obtain ⟨hl, h2⟩ := hown
  rcases h2 with ⟨h3, _⟩ | ⟨g', cap', cur, h3, _, h4, h5, h6, h7, h8⟩
  · cases h3
  · injection h3 with e1 e2 e3
    injection e1 with e1
    injection e1 with e1
    subst e1 e3
    have hB : Blk w g cur.toList e := by show w.heap[g]? = some (.cells cur.toList.toArray e (0, 0)); rw [h4]
    refine j_store1 hx hy hB h1 (by rw [Array.length_toList]; omega) ?_
    intro w' hb' hg hz
    refine h w' (hw.upd (o' := row false (.slice (some ⟨g, 0, none⟩) n cap) n (xs.set j u) e 1) hg.os hg.tape hg.output hg.size (fun k hk hne => hg.block k hk (fun e => hne (by injection e with e; rw [e]; rfl))) ?_ (fun k hk => ⟨.inl hk, ?_⟩) rfl (fun h => by cases h))
    · refine ⟨by rw [List.length_set]; exact hl, .inr ⟨g, cap, (cur.toList.set j u).toArray, rfl, Nat.zero_le _, hb', h5, h6, by simpa using h7, ?_⟩⟩
      rw [← h8, List.take_set]
    · have : k = g := by have h9 : some g = some k := hk; injection h9 with h9; exact h9.symm
      rw [this]; exact hb'.lt
theorem slice_some {w : World} {v : Value} {l : List ByteArray} (h : StrsAt w v l) (hl : 0 < l.length) : ∃ b o cap, v = .slice (some ⟨b, o, none⟩) l.length cap := by
  obtain ⟨ea, cap, rfl, _, hc⟩ := h
  obtain ⟨b, o, rfl, _⟩ := hc 0 l[0] (by simp [hl])
  exact ⟨b, o, cap, rfl⟩
theorem row_some {w : World} {v : Value} {n : Nat} {xs : List Value} {e : TypeId} {sz base : Nat} (h : w.ownsRow base e sz v n xs) (hn : 0 < n) : ∃ g cap, v = .slice (some ⟨g, 0, none⟩) n cap := by
  obtain ⟨_, h2⟩ := h
  rcases h2 with ⟨_, h3⟩ | ⟨g, cap, cur, h3, _⟩
  · omega
  · exact ⟨g, cap, h3⟩
theorem k_rowsome {N : Nat} {env : Env} {r : World} {O : List Own} {F : Act → World → Prop} (i : Nat) {f : Bool} {v : Value} {n : Nat} {xs : List Value} {e : TypeId} {sz : Nat} (hn : 0 < n) (hO : nthO O i = some (row f v n xs e sz)) (h : (∃ g cap, v = .slice (some ⟨g, 0, none⟩) n cap) → K N env r O F) : K N env r O F := fun w hw => h (row_some (hw.row i hO) hn) w hw
def kChanged : ByteArray := ⟨#[99, 104, 97, 110, 103, 101, 100]⟩
set_option maxRecDepth 100000
attribute [local irreducible] K KS KLeft KRound J OV EV EU Blk wpList Code.wp bodyPost Exit.then Exit.inBlock Round Left Hid JS wpStill wpHeld Calls
attribute [local irreducible] siteRes parseP checkP
theorem rule_any (fb : Nat) (nb pats : ByteArray) (mb dl : Int) (dists : List ByteArray) (dv : Value) (lb : Nat) (r : World) (hB : Blk r fb [.string nb, .string pats, .int .i64 mb, .int .i64 dl, dv, .pointer (some ⟨lb, 0, none⟩)] 73) (hD : StrsAt r dv dists) (hdn : dists.length ≤ 2000000) :
    Calls Tryd.prog 20 #[.pointer (some ⟨fb, 0, none⟩)] r fun e w' => ∃ v, e = .returned (.agg #[.string nb, .string pats, .int .i64 mb, .int .i64 dl, v]) ∧ Sat r [row false v dists.length (dists.map Value.string) 9 1] w' := by
  have hdv : dv.oneCell' = true := by obtain ⟨_, _, rfl, _⟩ := hD; rfl
  refine k_enter (N := 17) Tryd.func20 rfl rfl rfl ?_
  refine walkT ?_
  refine k_alloc (cs := [.string ⟨#[]⟩, .string ⟨#[]⟩, .int .i64 0, .int .i64 0, .slice none 0 0]) rfl rfl ?_
  intro rb
  refine walkT ?_
  refine k_op rfl (fun w hw => ov_loadAgg (cs := [.string nb, .string pats, .int .i64 mb, .int .i64 dl, dv]) rfl rfl (cells_from (o := 0) (n := 5) (hB.ext (hw.below rfl)))) ?_
  refine k_alloc (cs := [.string ⟨#[]⟩, .string ⟨#[]⟩, .int .i64 0, .int .i64 0, .slice none 0 0]) rfl rfl ?_
  intro tb
  obtain ⟨ea, cap, rfl, hcl, hcs⟩ := hD
  refine k_stE0 [.string nb, .string pats, .int .i64 mb, .int .i64 dl, .slice ea dists.length cap] rfl rfl rfl rfl rfl rfl (by rfl) ?_
  refine walkT ?_
  refine k_callr (by kernel_rfl) rfl rfl (fun w hw => clone_any _ dists w (StrsAt.ext ⟨ea, cap, rfl, hcl, hcs⟩ (hw.below rfl)) hdn) ?_
  intro v
  refine k_rowslice 0 rfl ?_
  rintro ⟨e1, c1, rfl⟩
  refine walkT ?_
  refine k_stE2 [.string nb, .string pats, .int .i64 mb, .int .i64 dl, .slice e1 dists.length c1] rfl rfl rfl rfl rfl rfl (by rfl) ?_
  refine walkT ?_
  exact k_retc (l := [.cell 2 28]) rfl (fun w hw => .cons (rv_agg 2 hw rfl rfl rfl) .nil) fun w hw => ⟨_, rfl, hw.sub (by repeat (first | exact SubO.nil | refine SubO.keep ?_ | refine SubO.drop rfl ?_))⟩
set_option maxHeartbeats 8000000 in
theorem checks_any (nb pats : ByteArray) (mb dl : Int) (dv : Value) (dists : List ByteArray) (m : Int) (r : World) (hm : r.cell? ⟨0, 0, none⟩ = some (.int .i64 m))
    (hnb : nb.size ≤ maxLen) (hps : pats.size ≤ maxLen) (hd : StrsAt r dv dists) (hdn : dists.length ≤ maxLen) (hds : ∀ s ∈ dists, s.size ≤ maxLen) :
    Calls Tryd.prog 6 #[.agg #[.string nb, .string pats, .int .i64 mb, .int .i64 dl, dv]] r fun e w' => e = .returned (.bool true) ∧ Below r.heap.size r w' := by
  have hdv : dv.oneCell' = true := by obtain ⟨_, _, rfl, _⟩ := hd; rfl
  have hds' : ∀ s ∈ dists.take 10, s.size ≤ 9223372036854775807 := fun s hs => by have := hds s (List.mem_of_mem_take hs); unfold maxLen at this; omega
  have hd10 : (dists.take 10).length ≤ 2000000 := by rw [List.length_take]; omega
  refine k_enter (N := 127) Tryd.func6 rfl rfl rfl ?_
  refine walkT ?_
  refine k_box (cs := [.string nb, .string pats, .int .i64 mb, .int .i64 dl, dv]) rfl rfl rfl ?_
  intro rb
  refine walkT ?_
  refine k_callS (σ := Value × Value) (val := fun s => .tuple #[.agg #[.string (cut nb 40), .string (cut pats 300), .int .i64 mb, .int .i64 dl, s.1], .agg #[.string (cut nb 40), .string (cut pats 300), .int .i64 mb, .int .i64 dl, s.2]]) (ok := fun _ => True) (own := fun s => [row false s.1 (dists.take 10).length ((dists.take 10).map Value.string) 9 1, row false s.2 (dists.take 10).length ((dists.take 10).map Value.string) 9 1]) (fun _ => rfl) (by kernel_rfl) rfl rfl
    (fun w hw => (to_any nb pats mb dl dv dists w hnb hps (hd.ext (hw.below rfl)) hdn).mono fun e w' ⟨v1, v2, h1, h2⟩ => ⟨(v1, v2), h1, trivial, h2⟩) ?_
  rintro ⟨v1, v2⟩ -
  dsimp only [List.cons_append, List.nil_append]
  have hnb' := cut_size nb 40
  have hps' := cut_size pats 300
  generalize cut nb 40 = nb' at hnb'
  generalize cut pats 300 = pats' at hps'
  generalize dists.take 10 = l10 at hds' hd10
  refine k_rowslice 0 rfl ?_
  rintro ⟨e1, c1, rfl⟩
  refine k_rowslice 1 rfl ?_
  rintro ⟨e2, c2, rfl⟩
  refine walkT ?_
  refine k_alloc (cs := [.string ⟨#[]⟩, .string ⟨#[]⟩, .int .i64 0, .int .i64 0, .slice none 0 0]) rfl rfl ?_
  intro tb
  refine walkT ?_
  refine k_alloc (cs := [.string ⟨#[]⟩, .string ⟨#[]⟩, .int .i64 0, .int .i64 0, .slice none 0 0]) rfl rfl ?_
  intro ub
  refine k_stE1 [.string nb', .string pats', .int .i64 mb, .int .i64 dl, .slice e1 l10.length c1] rfl rfl rfl rfl rfl rfl (by rfl) ?_
  refine k_stE0 [.string nb', .string pats', .int .i64 mb, .int .i64 dl, .slice e2 l10.length c2] rfl rfl rfl rfl rfl rfl (by rfl) ?_
  refine walkT ?_
  have hms : maxLen = 9223372036854775807 := rfl
  generalize hz : checkP nb'.data.toList pats'.data.toList mb dl l10 = z
  refine k_callb (v := .int .i64 z) (by kernel_rfl) rfl rfl (fun w hw => (refCheck_any nb' pats' mb dl (.slice e2 l10.length c2) l10 w (by omega) (by omega) (strs_of_row (hw.row 3 rfl)) hds' hd10).mono fun e w' h => ⟨by rw [h.1, hz], h.2⟩) ?_
  refine walkT ?_
  refine k_call (by kernel_rfl) rfl rfl (fun w hw => feedCompile2_any nb' pats' mb dl (.slice e1 l10.length c1) l10 m w (by omega) (by omega) (strs_of_row (hw.row 2 rfl)) hds' hd10 (cell_ext (hw.below rfl) hm)) ?_
  rintro w e w1 hw ⟨hx1, hno, hyes⟩
  rw [hz] at hno hyes
  have hS1 := hw.ext hx1
  by_cases hck : z = 0
  · obtain ⟨fb, dv, lb, hS, rfl⟩ := hyes hck
    refine ⟨_, rfl, ?_⟩
    refine j_of_k (hw.join hS rfl) ?_
    dsimp only [feedOwn, List.cons_append, List.nil_append]
    refine k_rowslice 1 rfl ?_
    rintro ⟨e3, c3, rfl⟩
    refine walkT ?_
    refine k_callb (v := .int .i64 z) (by kernel_rfl) rfl rfl (fun w hw => (check_any nb' pats' mb dl (.slice e1 l10.length c1) l10 m w (by omega) (by omega) (strs_of_row (hw.row 4 rfl)) hds' hd10 (cell_ext (hw.below rfl) hm)).mono fun e w' h => ⟨by rw [h.1, hz], h.2⟩) ?_
    refine walkT ?_
    refine k_op rfl (fun _ _ => ov_bneq_f Tryd.underlying4 rfl rfl rfl) ?_
    refine walkT ?_
    refine k_callS (σ := Value) (val := fun s => .agg #[.string nb', .string pats', .int .i64 mb, .int .i64 dl, s]) (ok := fun _ => True) (own := fun s => [row false s l10.length (l10.map Value.string) 9 1]) (fun _ => rfl) (by kernel_rfl) rfl rfl
      (fun w hw => (rule_any fb nb' pats' mb dl l10 _ lb w (hw.blk 0 rfl) (strs_of_row (hw.row 1 rfl)) hd10).mono fun e w' ⟨v, h1, h2⟩ => ⟨v, h1, trivial, h2⟩) ?_
    rintro v4 -
    dsimp only [List.cons_append, List.nil_append]
    refine k_rowslice 0 rfl ?_
    rintro ⟨e4, c4, rfl⟩
    refine k_alloc (cs := [.string ⟨#[]⟩, .string ⟨#[]⟩, .int .i64 0, .int .i64 0, .slice none 0 0]) rfl rfl ?_
    intro yb
    refine k_stE0 [.string nb', .string pats', .int .i64 mb, .int .i64 dl, .slice e4 l10.length c4] rfl rfl rfl rfl rfl rfl (by rfl) ?_
    have hr1 : nb' = nb' := rfl
    have hr2 : pats' = pats' := rfl
    refine walkT ?_
    refine k_loop (σ := Nat × List Value × List Value) (fun t => [(3, .pointer (some ⟨tb, 0, none⟩)), (4, .pointer (some ⟨ub, 0, none⟩)), (6, .pointer (some ⟨fb, 0, none⟩)), (8, .pointer (some ⟨yb, 0, none⟩)), (9, .int .i64 t.1)])
      (fun t => [bk false yb [.string nb', .string pats', .int .i64 mb, .int .i64 dl, .slice e4 l10.length c4] 28, row false (.slice e4 l10.length c4) l10.length t.2.1 9 1, bk false fb [.string nb', .string pats', .int .i64 mb, .int .i64 dl, .slice e3 l10.length c3, .pointer (some ⟨lb, 0, none⟩)] 73, row false (.slice e3 l10.length c3) l10.length (l10.map Value.string) 9 1, bk false ub [.string nb', .string pats', .int .i64 mb, .int .i64 dl, .slice e2 l10.length c2] 24, bk false tb [.string nb', .string pats', .int .i64 mb, .int .i64 dl, .slice e1 l10.length c1] 28, row false (.slice e1 l10.length c1) l10.length t.2.2 9 1, row false (.slice e2 l10.length c2) l10.length (l10.map Value.string) 9 1])
      (fun t => t.1 ≤ l10.length ∧ ∀ j, t.1 ≤ j → t.2.1[j]? = (l10.map Value.string)[j]?) (fun t => l10.length - t.1) (0, l10.map Value.string, l10.map Value.string) (by repeat (first | exact Sub.nil | refine Sub.cons rfl ?_)) (by repeat (first | exact SubO.nil | refine SubO.keep ?_ | refine SubO.drop rfl ?_)) ⟨Nat.zero_le _, fun _ _ => rfl⟩ ?_
    rintro ⟨i, xs1, xs2⟩ ⟨hi, hxs⟩
    dsimp only at hi hxs ⊢
    by_cases hlt : i < l10.length
    · refine k_rowsome 1 (by omega) rfl ?_
      rintro ⟨g4, c4', hg4⟩
      injection hg4 with hg4 _ hc4; subst hg4 hc4
      refine k_rowsome 6 (by omega) rfl ?_
      rintro ⟨g1, c1', hg1⟩
      injection hg1 with hg1 _ hc1; subst hg1 hc1
      refine k_rowsome 7 (by omega) rfl ?_
      rintro ⟨g2, c2', hg2⟩
      injection hg2 with hg2 _ hc2; subst hg2 hc2
      have h1 := hxs i (Nat.le_refl _)
      have h2 : (l10.map Value.string)[i]? = some (.string l10[i]) := by rw [List.getElem?_map, List.getElem?_eq_getElem hlt]; rfl
      rw [h2] at h1
      generalize l10[i] = s at h1 h2
      have hss : s = s := rfl
      refine walkT ?_
      refine k_held 11 [0, 1, 2, 3, 4, 5, 6, 7, 8, 9, 10] (by kernel_rfl) (by kernel_rfl) ?_
      dsimp only [pickL, nth, List.drop]
      refine hwalkT ?_
      refine kh_op rfl rfl (fun w hw => ov_row 1 hw inferInstance rfl rfl h1) ?_
      refine hwalkT ?_
      refine kh_op rfl rfl (fun w hw => ov_row 7 hw inferInstance rfl rfl h2) ?_
      refine hwalkT ?_
      refine walkT ?_
      refine k_heldT 10 [0, 1, 2, 3, 4, 5, 6, 7, 8, 9] [bk false yb [.string nb', .string pats', .int .i64 mb, .int .i64 dl, .slice (some ⟨g4, 0, none⟩) l10.length c4] 28, bk false fb [.string nb', .string pats', .int .i64 mb, .int .i64 dl, .slice e3 l10.length c3, .pointer (some ⟨lb, 0, none⟩)] 73, row false (.slice e3 l10.length c3) l10.length (l10.map Value.string) 9 1, bk false ub [.string nb', .string pats', .int .i64 mb, .int .i64 dl, .slice (some ⟨g2, 0, none⟩) l10.length c2] 24, bk false tb [.string nb', .string pats', .int .i64 mb, .int .i64 dl, .slice (some ⟨g1, 0, none⟩) l10.length c1] 28, row false (.slice (some ⟨g2, 0, none⟩) l10.length c2) l10.length (l10.map Value.string) 9 1] (by repeat (first | exact SubO.nil | refine SubO.keep ?_ | refine SubO.drop rfl ?_)) (by kernel_rfl) (by kernel_rfl) ?_
      dsimp only [pickL, nth, List.drop]
      refine hwalkT ?_
      refine kh_run rfl (k_rowsetG (A := [_]) (u := .string kChanged) rfl rfl rfl hlt ?_)
      dsimp only [List.cons_append, List.nil_append]
      refine kh_back (by repeat (first | exact SubO.nil | refine SubO.keep ?_ | refine SubO.drop rfl ?_)) ?_
      refine hwalkT ?_
      refine kh_run rfl (k_rowsetG (A := [_, _, _, _, _, _]) (u := .string kChanged) rfl rfl rfl hlt ?_)
      dsimp only [List.cons_append, List.nil_append]
      refine kh_back (by repeat (first | exact SubO.nil | refine SubO.keep ?_ | refine SubO.drop rfl ?_)) ?_
      refine hwalkT ?_
      refine walkT ?_
      refine k_round (i + 1, xs1.set i (.string kChanged), xs2.set i (.string kChanged)) (by repeat (first | exact Sub.nil | refine Sub.cons rfl ?_)) (by repeat (first | exact SubO.nil | refine SubO.keep ?_ | refine SubO.drop rfl ?_)) ⟨by dsimp only; omega, fun j hj => ?_⟩ (by dsimp only; omega)
      dsimp only at hj ⊢
      rw [List.getElem?_set_ne (by omega)]
      exact hxs j (by omega)
    · refine walkT ?_
      refine k_callS (σ := Value) (val := fun s => .agg #[.string nb', .string pats', .int .i64 mb, .int .i64 dl, s]) (ok := fun _ => True) (own := fun s => [row false s l10.length (l10.map Value.string) 9 1]) (fun _ => rfl) (by kernel_rfl) rfl rfl
        (fun w hw => (rule_any fb nb' pats' mb dl l10 _ lb w (hw.blk 2 rfl) (strs_of_row (hw.row 3 rfl)) hd10).mono fun e w' ⟨v, h1, h2⟩ => ⟨v, h1, trivial, h2⟩) ?_
      rintro v5 -
      dsimp only [List.cons_append, List.nil_append]
      refine k_rowslice 0 rfl ?_
      rintro ⟨e5, c5, rfl⟩
      refine k_alloc (cs := [.string ⟨#[]⟩, .string ⟨#[]⟩, .int .i64 0, .int .i64 0, .slice none 0 0]) rfl rfl ?_
      intro zb
      refine k_stE0 [.string nb', .string pats', .int .i64 mb, .int .i64 dl, .slice e5 l10.length c5] rfl rfl rfl rfl rfl rfl (by rfl) ?_
      refine walkT ?_
      refine k_loop (σ := Nat) (fun j => [(4, .pointer (some ⟨ub, 0, none⟩)), (10, .pointer (some ⟨zb, 0, none⟩)), (11, .int .i64 j)])
        (fun _ => [bk false zb [.string nb', .string pats', .int .i64 mb, .int .i64 dl, .slice e5 l10.length c5] 28, row false (.slice e5 l10.length c5) l10.length (l10.map Value.string) 9 1, bk false ub [.string nb', .string pats', .int .i64 mb, .int .i64 dl, .slice e2 l10.length c2] 24, row false (.slice e2 l10.length c2) l10.length (l10.map Value.string) 9 1])
        (fun j => j ≤ l10.length) (fun j => l10.length - j) 0 (by repeat (first | exact Sub.nil | refine Sub.cons rfl ?_)) (by repeat (first | exact SubO.nil | refine SubO.keep ?_ | refine SubO.drop rfl ?_)) (Nat.zero_le _) ?_
      intro j hj
      by_cases hlt2 : j < l10.length
      · refine k_rowsome 1 (by omega) rfl ?_
        rintro ⟨g5, c5', hg5⟩
        injection hg5 with hg5 _ hc5; subst hg5 hc5
        refine k_rowsome 3 (by omega) rfl ?_
        rintro ⟨g2, c2', hg2⟩
        injection hg2 with hg2 _ hc2; subst hg2 hc2
        have h2 : (l10.map Value.string)[j]? = some (.string l10[j]) := by rw [List.getElem?_map, List.getElem?_eq_getElem hlt2]; rfl
        generalize l10[j] = s at h2
        have hss : s = s := rfl
        refine walkT ?_
        refine k_held 11 [0, 1, 2, 3, 4, 5, 6, 7, 8, 9, 10] (by kernel_rfl) (by kernel_rfl) ?_
        dsimp only [pickL, nth, List.drop]
        refine hwalkT ?_
        refine kh_op rfl rfl (fun w hw => ov_row 1 hw inferInstance rfl rfl h2) ?_
        refine hwalkT ?_
        refine kh_op rfl rfl (fun w hw => ov_row 3 hw inferInstance rfl rfl h2) ?_
        refine hwalkT ?_
        refine walkT ?_
        refine k_round (j + 1) (by repeat (first | exact Sub.nil | refine Sub.cons rfl ?_)) (by repeat (first | exact SubO.nil | refine SubO.keep ?_ | refine SubO.drop rfl ?_)) (by omega) (by omega)
      · refine walkT ?_
        refine k_callb (v := .bool true) (by kernel_rfl) rfl rfl (fun w hw => known_any m w (cell_ext (hw.below rfl) hm)) ?_
        refine walkT ?_
        exact k_ret1 rfl rfl fun w hw => ⟨rfl, hw.below rfl⟩
  · rw [hno hck]
    refine ⟨_, rfl, ?_⟩
    refine j_of_k hS1 ?_
    refine walkT ?_
    refine k_callb (v := .int .i64 z) (by kernel_rfl) rfl rfl (fun w hw => (check_any nb' pats' mb dl (.slice e1 l10.length c1) l10 m w (by omega) (by omega) (strs_of_row (hw.row 2 rfl)) hds' hd10 (cell_ext (hw.below rfl) hm)).mono fun e w' h => ⟨by rw [h.1, hz], h.2⟩) ?_
    refine walkT ?_
    refine k_op rfl (fun _ _ => ov_bneq_f Tryd.underlying4 rfl rfl rfl) ?_
    refine walkT ?_
    refine k_callb (v := .bool true) (by kernel_rfl) rfl rfl (fun w hw => known_any m w (cell_ext (hw.below rfl) hm)) ?_
    refine walkT ?_
    exact k_ret1 rfl rfl fun w hw => ⟨rfl, hw.below rfl⟩
end Go.Proofs.YtddiecdoaggaaaaDoor
