/- The law's items. -/
import Derived.Test.YtddiecdoaggaaaaDoorFeedS
import Derived.Test.YtddiecdoaggaaaaDoorWalkT
namespace Go.Proofs.YtddiecdoaggaaaaDoor
open Go.RowKit Go.Sort

/-- Rows of strings that are known. -/
def grpO (L : List (Value × List ByteArray)) : Own := fct (fun k => ∃ p ∈ L, p.1.ownBlock = some k) (fun w => ∀ p ∈ L, w.ownsRow 0 9 1 p.1 p.2.length (p.2.map Value.string)) (fun w w' h hp p hpL =>
  (row false p.1 p.2.length (p.2.map Value.string) 9 1).loc w w' (fun b hb => h b ⟨p, hpL, hb⟩) (hp p hpL))
def cutG (x : ItX) : ItX := { x with gv := .slice none 0 0, gs := x.gs.take 20 }
def noG (x : ItX) : ItX := { x with gv := .slice none 0 0 }
def pairG (x : ItX) : Value × List ByteArray := (x.gv, x.gs)
theorem noG_due (nb : ByteArray) (mb dl : Int) (dists : List ByteArray) (items : List (Nat × List Elem)) (now : Int) (x : ItX) : dueNow nb mb dl dists items now (noG x) = dueNow nb mb dl dists items now x := rfl
theorem foundL_noG (nb : ByteArray) (mb dl : Int) (dists : List ByteArray) (items : List (Nat × List Elem)) (now : Int) (l : List ItX) : foundL nb mb dl dists items now (l.map noG) = foundL nb mb dl dists items now l := by
  unfold foundL
  rw [List.filterMap_map]
  rfl
/-- An item as1 an argument. -/
def ItX.Arg (w : World) (x : ItX) : Prop := ∃ ea cap, x.gv = .slice ea x.gs.length cap ∧ StrsN w ea cap x.gs ∧ x.gs.length ≤ maxLen
theorem ItX.cells_one (x : ItX) (h : x.gv.oneCell' = true) : ∀ v ∈ x.cells, v.oneCell' = true := by
  intro v hv
  unfold ItX.cells fitemC at hv
  rcases List.mem_append.1 hv with hv | hv
  · exact List.all_eq_true.1 (u8C_one _) v hv
  · simp only [List.mem_cons, List.not_mem_nil, or_false] at hv
    rcases hv with rfl | rfl | rfl | rfl | rfl | rfl <;> first | exact h | rfl
set_option maxRecDepth 100000
attribute [local irreducible] K KS KLeft KRound J OV EV EU Blk wpList Code.wp bodyPost Exit.then Exit.inBlock Round Left Hid JS wpStill wpHeld Calls
attribute [local irreducible] wpT
theorem k_grp0 {N : Nat} {env : Env} {r : World} {O : List Own} {F : Act → World → Prop} (h : K N env r (grpO [] :: O) F) : K N env r O F :=
  k_fct0 _ _ _ (fun k ⟨p, hp, _⟩ => by cases hp) (fun w p hp => by cases hp) h
/-- A row joins those that are known. -/
theorem k_grp {N : Nat} {env : Env} {r : World} {A B C : List Own} {F : Act → World → Prop} {v : Value} {gs : List ByteArray} {L : List (Value × List ByteArray)} (h : K N env r (A ++ grpO (L ++ [(v, gs)]) :: (B ++ C)) F) : K N env r (A ++ row false v gs.length (gs.map Value.string) 9 1 :: (B ++ grpO L :: C)) F := by
  refine k_both rfl rfl ?_
  refine k_weak (grpO (L ++ [(v, gs)])) rfl rfl ?_ ?_ h
  · rintro k ⟨p, hp, hk⟩
    rcases List.mem_append.1 hp with hp | hp
    · exact .inr ⟨p, hp, hk⟩
    · rw [List.mem_singleton.1 hp] at hk; exact .inl hk
  · rintro w ⟨h1, h2⟩ p hp
    rcases List.mem_append.1 hp with hp | hp
    · exact h2 p hp
    · rw [List.mem_singleton.1 hp]; exact h1
set_option maxHeartbeats 4000000 in
theorem items_any (ea : Option Addr) (cap : Nat) (its : List ItX) (r : World) (hI : RowIs r ea its.length cap 38 (its.flatMap ItX.cells)) (hok : ∀ x ∈ its, x.Arg r) (hn : its.length ≤ 9223372036854775807) :
    Calls Tryd.prog 21 #[.slice ea its.length cap] r fun e w' => ∃ s : Value × Value × List ItX × List ItX × List (Value × List ByteArray), e = .returned (.tuple #[s.1, s.2.1]) ∧ (s.2.2.1.map noG = (its.take 20).map cutG ∧ s.2.2.2.1.map noG = (its.take 20).map cutG ∧ ∀ x, (x ∈ s.2.2.1 ∨ x ∈ s.2.2.2.1) → pairG x ∈ s.2.2.2.2) ∧
      Sat r [grpO s.2.2.2.2, row false s.1 s.2.2.1.length (s.2.2.1.flatMap ItX.cells) 39 38, row false s.2.1 s.2.2.2.1.length (s.2.2.2.1.flatMap ItX.cells) 27 38] w' := by
  refine k_enter (N := 37) Tryd.func21 rfl rfl rfl ?_
  refine walkB ?_
  refine k_nilrow 27 38 ?_
  refine k_nilrow 39 38 ?_
  refine k_grp0 ?_
  refine k_loop (σ := Nat × Value × Value × List ItX × List ItX × List (Value × List ByteArray)) (fun t => [(0, .slice ea its.length cap), (4, t.2.1), (5, t.2.2.1), (6, .int .i64 t.1)]) (fun t => [grpO t.2.2.2.2.2, row false t.2.1 t.2.2.2.1.length (t.2.2.2.1.flatMap ItX.cells) 39 38, row false t.2.2.1 t.2.2.2.2.1.length (t.2.2.2.2.1.flatMap ItX.cells) 27 38])
    (fun t => t.1 ≤ its.length ∧ t.1 ≤ 20 ∧ t.2.2.2.1.map noG = (its.take t.1).map cutG ∧ t.2.2.2.2.1.map noG = (its.take t.1).map cutG ∧ ∀ x, (x ∈ t.2.2.2.1 ∨ x ∈ t.2.2.2.2.1) → pairG x ∈ t.2.2.2.2.2) (fun t => its.length - t.1) (0, .slice none 0 0, .slice none 0 0, [], [], []) (by repeat (first | exact Sub.nil | refine Sub.cons rfl ?_)) (by repeat (first | exact SubO.nil | refine SubO.keep ?_ | refine SubO.drop rfl ?_)) ⟨Nat.zero_le _, Nat.zero_le _, rfl, rfl, by simp⟩ ?_
  rintro ⟨k, av, bv, as1, bs1, L⟩ ⟨hk, hk20, hA, hB, hL⟩
  dsimp only at hk hk20 hA hB hL ⊢
  by_cases hlt : k < its.length ∧ k < 20
  · have hcs := flat_cells ItX.len (List.getElem?_eq_getElem hlt.1)
    have hxo := hok its[k] (List.getElem_mem hlt.1)
    have htk : its.take (k + 1) = its.take k ++ [its[k]] := List.take_succ_eq_append_getElem hlt.1
    obtain ⟨g, o, rfl⟩ : ∃ g o, ea = some ⟨g, o, none⟩ := by
      have h0 : 0 < (its.flatMap ItX.cells).length := by rw [hI.2.2.1]; omega
      obtain ⟨ad, h1, hcl⟩ := hI.2.2.2 0 _ (List.getElem?_eq_getElem h0)
      have h2 := World.cell?_spot hcl
      obtain ⟨g, o, s⟩ := ad
      have h2 : s = none := by simpa [Addr.add] using h2
      subst h2
      exact ⟨g, o, h1⟩
    generalize its[k] = x at hcs hxo htk
    have hal : as1.length = k := by have := congrArg List.length hA; simp [List.length_take] at this; omega
    have hbl : bs1.length = k := by have := congrArg List.length hB; simp [List.length_take] at this; omega
    have hxl := ItX.len x
    obtain ⟨xe, xc, hxv, hxs, hxm⟩ := hxo
    refine walkB ?_
    refine k_op rfl (fun w hw => ov_rowAgg (hI.ext (hw.below rfl)) rfl hxl hcs) ?_
    refine k_callS (σ := Value × Value) (ok := fun _ => True) (val := fun s => .tuple #[.agg (ItX.cells { x with gv := s.1, gs := x.gs.take 20 }).toArray, .agg (ItX.cells { x with gv := s.2, gs := x.gs.take 20 }).toArray]) (own := fun s => [row false s.1 (x.gs.take 20).length ((x.gs.take 20).map Value.string) 9 1, row false s.2 (x.gs.take 20).length ((x.gs.take 20).map Value.string) 9 1]) (fun _ => rfl) (by kernel_rfl) rfl rfl (fun w hw => by
      have h := item_anyN x.id.1 xe xc x.gs x.d x.n x.c x.f x.a w x.id.2 (hxs.ext (hw.below rfl)) hxm
      have e1 : x.cells = fitemC (x.id.1.map fun c => Value.int .u8 c.toNat) (.slice xe x.gs.length xc) x.d x.n x.c x.f x.a := by unfold ItX.cells; rw [hxv]; rfl
      rw [e1]
      exact h.mono fun e w' ⟨v1, v2, h1, h2⟩ => ⟨(v1, v2), h1, trivial, h2⟩) ?_
    rintro ⟨v1, v2⟩ -
    dsimp only [List.cons_append, List.nil_append]
    refine k_rowslice 0 rfl ?_
    rintro ⟨e1, c1, rfl⟩
    refine k_rowslice 1 rfl ?_
    rintro ⟨e2, c2, rfl⟩
    generalize hv1e : Value.slice e1 (x.gs.take 20).length c1 = v1
    generalize hv2e : Value.slice e2 (x.gs.take 20).length c2 = v2
    have hv1 : v1.oneCell' = true := by rw [← hv1e]; rfl
    have hv2 : v2.oneCell' = true := by rw [← hv2e]; rfl
    refine k_grp (A := [row false v1 (x.gs.take 20).length ((x.gs.take 20).map Value.string) 9 1]) (B := []) (v := v2) (gs := x.gs.take 20) (L := L) ?_
    refine k_grp (A := []) (B := []) (v := v1) (gs := x.gs.take 20) ?_
    dsimp only [List.nil_append, List.append_nil]
    generalize hL' : L ++ [(v2, x.gs.take 20)] ++ [(v1, x.gs.take 20)] = L'
    have hin : ∀ p, (p ∈ L ∨ p = (v1, x.gs.take 20) ∨ p = (v2, x.gs.take 20)) → p ∈ L' := by
      intro p hp
      rw [← hL']
      simp only [List.mem_append, List.mem_singleton]
      rcases hp with h | h | h <;> simp [h]
    generalize hx1 : ({ x with gv := v1, gs := x.gs.take 20 } : ItX) = x1
    generalize hx2 : ({ x with gv := v2, gs := x.gs.take 20 } : ItX) = x2
    have hc1 := ItX.cells_one x1 (by rw [← hx1]; exact hv1)
    have hc2 := ItX.cells_one x2 (by rw [← hx2]; exact hv2)
    have hk1 := ItX.len x1
    have hk2 := ItX.len x2
    have hA' : (as1 ++ [x1]).map noG = (its.take (k + 1)).map cutG := by rw [htk, List.map_append, List.map_append, hA, ← hx1]; rfl
    have hB' : (bs1 ++ [x2]).map noG = (its.take (k + 1)).map cutG := by rw [htk, List.map_append, List.map_append, hB, ← hx2]; rfl
    have hLL : ∀ y, (y ∈ as1 ++ [x1] ∨ y ∈ bs1 ++ [x2]) → pairG y ∈ L' := by
      intro y hy
      simp only [List.mem_append, List.mem_singleton] at hy
      rcases hy with (h | h) | (h | h)
      · exact hin _ (.inl (hL y (.inl h)))
      · subst h; rw [← hx1]; exact hin _ (.inr (.inl rfl))
      · exact hin _ (.inl (hL y (.inr h)))
      · subst h; rw [← hx2]; exact hin _ (.inr (.inr rfl))
    clear hx1 hx2
    refine walkB ?_
    refine k_alloc (cs := z32 ++ [.slice none 0 0, .string ⟨#[]⟩, .int .i64 0, .bool false, .string ⟨#[]⟩, .int .i64 0]) rfl rfl ?_
    intro tb
    refine walkB ?_
    refine k_alloc (cs := z32 ++ [.slice none 0 0, .string ⟨#[]⟩, .int .i64 0, .bool false, .string ⟨#[]⟩, .int .i64 0]) rfl rfl ?_
    intro ub
    refine k_cpA1 rfl rfl rfl (List.all_eq_true.2 hc1) rfl hk1 ?_
    refine k_cpA0 rfl rfl rfl (List.all_eq_true.2 hc2) rfl hk2 ?_
    refine walkB ?_
    have hs1 : (Value.agg x1.cells.toArray).cells.size = 38 := by show x1.cells.toArray.size = 38; simpa using hk1
    have hs2 : (Value.agg x2.cells.toArray).cells.size = 38 := by show x2.cells.toArray.size = 38; simpa using hk2
    rw [hal, hbl]
    have hfa : (as1 ++ [x1]).flatMap ItX.cells = as1.flatMap ItX.cells ++ x1.cells := by simp
    have hfb : (bs1 ++ [x2]).flatMap ItX.cells = bs1.flatMap ItX.cells ++ x2.cells := by simp
    have hla : (as1 ++ [x1]).length = k + 1 := by simp [hal]
    have hlb : (bs1 ++ [x2]).length = k + 1 := by simp [hbl]
    refine k_heldTrS 10 (.one 0 (.one 1 (.one 4 (.one 5 (.two 2 (.two 6 (.two 3 (.one 7 (.one 8 (.one 9 .nil))) 7 (.one 3 (.one 8 (.one 9 .nil)))) 3 (.one 6 (.one 7 (.one 8 (.one 9 .nil))))) 6 (.two 2 (.two 3 (.one 7 (.one 8 (.one 9 .nil))) 7 (.one 3 (.one 8 (.one 9 .nil)))) 7 (.one 2 (.one 3 (.one 8 (.one 9 .nil)))))))))) [bk false ub x2.cells 27, bk false tb x1.cells 39, grpO L'] (by repeat (first | exact SubO.nil | refine SubO.keep ?_ | refine SubO.drop rfl ?_)) (by kernel_rfl) (by kernel_rfl) ?_
    refine twalkB ?_
    refine kt_two rfl rfl ?_ ?_
    · refine k_one (v := .agg x1.cells.toArray) (cs := x1.cells) rfl rfl rfl hs1 rfl rfl rfl ?_
      intro l2
      refine kt_back (O0 := [bk false ub x2.cells 27, bk false tb x1.cells 39, grpO L']) (by repeat (first | exact SubO.nil | refine SubO.keep ?_ | refine SubO.drop rfl ?_)) ?_
      refine kt_two rfl rfl ?_ ?_
      · refine k_one (v := .agg x2.cells.toArray) (cs := x2.cells) rfl rfl rfl hs2 rfl rfl rfl ?_
        intro l6
        refine kt_back (O0 := [bk false ub x2.cells 27, bk false tb x1.cells 39, grpO L']) (by repeat (first | exact SubO.nil | refine SubO.keep ?_ | refine SubO.drop rfl ?_)) ?_
        refine kt_two rfl rfl ?_ ?_
        · refine k_appG (A := [_, _, _, _, _]) (m := 1) (c := 1) (news := x1.cells) rfl rfl rfl (fun w hw => (hw.blk 1 rfl).cells) hk1 (List.all_eq_true.2 hc1) rfl rfl (by omega) (by unfold maxLen; omega) ?_
          intro v3
          refine kt_back (O0 := [bk false ub x2.cells 27, bk false tb x1.cells 39, grpO L']) (by repeat (first | exact SubO.nil | refine SubO.keep ?_ | refine SubO.drop rfl ?_)) ?_
          refine kt_run rfl rfl ?_
          refine k_appG (A := [_, _, _, _, _, _]) (m := 1) (c := 1) (news := x2.cells) rfl rfl rfl (fun w hw => (hw.blk 0 rfl).cells) hk2 (List.all_eq_true.2 hc2) rfl rfl (by omega) (by unfold maxLen; omega) ?_
          intro v7
          refine kt_back (O0 := [bk false ub x2.cells 27, bk false tb x1.cells 39, grpO L']) (by repeat (first | exact SubO.nil | refine SubO.keep ?_ | refine SubO.drop rfl ?_)) ?_
          refine twalkB ?_
          refine walkB ?_
          refine k_round (k + 1, v3, v7, as1 ++ [x1], bs1 ++ [x2], L') (by repeat (first | exact Sub.nil | refine Sub.cons rfl ?_)) (by dsimp only; rw [hfa, hfb, hla, hlb]; exact (by repeat (first | exact SubO.nil | refine SubO.keep ?_ | refine SubO.drop rfl ?_))) ⟨by omega, by omega, hA', hB', hLL⟩ (by dsimp only; omega)
        · refine k_appG (A := [_, _, _, _, _, _]) (m := 1) (c := 1) (news := x2.cells) rfl rfl rfl (fun w hw => (hw.blk 0 rfl).cells) hk2 (List.all_eq_true.2 hc2) rfl rfl (by omega) (by unfold maxLen; omega) ?_
          intro v7
          refine kt_back (O0 := [bk false ub x2.cells 27, bk false tb x1.cells 39, grpO L']) (by repeat (first | exact SubO.nil | refine SubO.keep ?_ | refine SubO.drop rfl ?_)) ?_
          refine kt_run rfl rfl ?_
          refine k_appG (A := [_, _, _, _, _]) (m := 1) (c := 1) (news := x1.cells) rfl rfl rfl (fun w hw => (hw.blk 1 rfl).cells) hk1 (List.all_eq_true.2 hc1) rfl rfl (by omega) (by unfold maxLen; omega) ?_
          intro v3
          refine kt_back (O0 := [bk false ub x2.cells 27, bk false tb x1.cells 39, grpO L']) (by repeat (first | exact SubO.nil | refine SubO.keep ?_ | refine SubO.drop rfl ?_)) ?_
          refine twalkB ?_
          refine walkB ?_
          refine k_round (k + 1, v3, v7, as1 ++ [x1], bs1 ++ [x2], L') (by repeat (first | exact Sub.nil | refine Sub.cons rfl ?_)) (by dsimp only; rw [hfa, hfb, hla, hlb]; exact (by repeat (first | exact SubO.nil | refine SubO.keep ?_ | refine SubO.drop rfl ?_))) ⟨by omega, by omega, hA', hB', hLL⟩ (by dsimp only; omega)
      · refine k_appG (A := [_, _, _, _]) (m := 1) (c := 1) (news := x1.cells) rfl rfl rfl (fun w hw => (hw.blk 0 rfl).cells) hk1 (List.all_eq_true.2 hc1) rfl rfl (by omega) (by unfold maxLen; omega) ?_
        intro v3
        refine kt_back (O0 := [bk false ub x2.cells 27, bk false tb x1.cells 39, grpO L']) (by repeat (first | exact SubO.nil | refine SubO.keep ?_ | refine SubO.drop rfl ?_)) ?_
        refine kt_run rfl rfl ?_
        refine k_one (v := .agg x2.cells.toArray) (cs := x2.cells) rfl rfl rfl hs2 rfl rfl rfl ?_
        intro l6
        refine kt_back (O0 := [bk false ub x2.cells 27, bk false tb x1.cells 39, grpO L']) (by repeat (first | exact SubO.nil | refine SubO.keep ?_ | refine SubO.drop rfl ?_)) ?_
        refine kt_run rfl rfl ?_
        refine k_appG (A := [_, _, _, _, _, _]) (m := 1) (c := 1) (news := x2.cells) rfl rfl rfl (fun w hw => (hw.blk 0 rfl).cells) hk2 (List.all_eq_true.2 hc2) rfl rfl (by omega) (by unfold maxLen; omega) ?_
        intro v7
        refine kt_back (O0 := [bk false ub x2.cells 27, bk false tb x1.cells 39, grpO L']) (by repeat (first | exact SubO.nil | refine SubO.keep ?_ | refine SubO.drop rfl ?_)) ?_
        refine twalkB ?_
        refine walkB ?_
        refine k_round (k + 1, v3, v7, as1 ++ [x1], bs1 ++ [x2], L') (by repeat (first | exact Sub.nil | refine Sub.cons rfl ?_)) (by dsimp only; rw [hfa, hfb, hla, hlb]; exact (by repeat (first | exact SubO.nil | refine SubO.keep ?_ | refine SubO.drop rfl ?_))) ⟨by omega, by omega, hA', hB', hLL⟩ (by dsimp only; omega)
    · refine k_one (v := .agg x2.cells.toArray) (cs := x2.cells) rfl rfl rfl hs2 rfl rfl rfl ?_
      intro l6
      refine kt_back (O0 := [bk false ub x2.cells 27, bk false tb x1.cells 39, grpO L']) (by repeat (first | exact SubO.nil | refine SubO.keep ?_ | refine SubO.drop rfl ?_)) ?_
      refine kt_two rfl rfl ?_ ?_
      · refine k_one (v := .agg x1.cells.toArray) (cs := x1.cells) rfl rfl rfl hs1 rfl rfl rfl ?_
        intro l2
        refine kt_back (O0 := [bk false ub x2.cells 27, bk false tb x1.cells 39, grpO L']) (by repeat (first | exact SubO.nil | refine SubO.keep ?_ | refine SubO.drop rfl ?_)) ?_
        refine kt_two rfl rfl ?_ ?_
        · refine k_appG (A := [_, _, _, _, _]) (m := 1) (c := 1) (news := x1.cells) rfl rfl rfl (fun w hw => (hw.blk 0 rfl).cells) hk1 (List.all_eq_true.2 hc1) rfl rfl (by omega) (by unfold maxLen; omega) ?_
          intro v3
          refine kt_back (O0 := [bk false ub x2.cells 27, bk false tb x1.cells 39, grpO L']) (by repeat (first | exact SubO.nil | refine SubO.keep ?_ | refine SubO.drop rfl ?_)) ?_
          refine kt_run rfl rfl ?_
          refine k_appG (A := [_, _, _, _, _, _]) (m := 1) (c := 1) (news := x2.cells) rfl rfl rfl (fun w hw => (hw.blk 1 rfl).cells) hk2 (List.all_eq_true.2 hc2) rfl rfl (by omega) (by unfold maxLen; omega) ?_
          intro v7
          refine kt_back (O0 := [bk false ub x2.cells 27, bk false tb x1.cells 39, grpO L']) (by repeat (first | exact SubO.nil | refine SubO.keep ?_ | refine SubO.drop rfl ?_)) ?_
          refine twalkB ?_
          refine walkB ?_
          refine k_round (k + 1, v3, v7, as1 ++ [x1], bs1 ++ [x2], L') (by repeat (first | exact Sub.nil | refine Sub.cons rfl ?_)) (by dsimp only; rw [hfa, hfb, hla, hlb]; exact (by repeat (first | exact SubO.nil | refine SubO.keep ?_ | refine SubO.drop rfl ?_))) ⟨by omega, by omega, hA', hB', hLL⟩ (by dsimp only; omega)
        · refine k_appG (A := [_, _, _, _, _, _]) (m := 1) (c := 1) (news := x2.cells) rfl rfl rfl (fun w hw => (hw.blk 1 rfl).cells) hk2 (List.all_eq_true.2 hc2) rfl rfl (by omega) (by unfold maxLen; omega) ?_
          intro v7
          refine kt_back (O0 := [bk false ub x2.cells 27, bk false tb x1.cells 39, grpO L']) (by repeat (first | exact SubO.nil | refine SubO.keep ?_ | refine SubO.drop rfl ?_)) ?_
          refine kt_run rfl rfl ?_
          refine k_appG (A := [_, _, _, _, _]) (m := 1) (c := 1) (news := x1.cells) rfl rfl rfl (fun w hw => (hw.blk 0 rfl).cells) hk1 (List.all_eq_true.2 hc1) rfl rfl (by omega) (by unfold maxLen; omega) ?_
          intro v3
          refine kt_back (O0 := [bk false ub x2.cells 27, bk false tb x1.cells 39, grpO L']) (by repeat (first | exact SubO.nil | refine SubO.keep ?_ | refine SubO.drop rfl ?_)) ?_
          refine twalkB ?_
          refine walkB ?_
          refine k_round (k + 1, v3, v7, as1 ++ [x1], bs1 ++ [x2], L') (by repeat (first | exact Sub.nil | refine Sub.cons rfl ?_)) (by dsimp only; rw [hfa, hfb, hla, hlb]; exact (by repeat (first | exact SubO.nil | refine SubO.keep ?_ | refine SubO.drop rfl ?_))) ⟨by omega, by omega, hA', hB', hLL⟩ (by dsimp only; omega)
      · refine k_appG (A := [_, _, _, _, _]) (m := 1) (c := 1) (news := x2.cells) rfl rfl rfl (fun w hw => (hw.blk 0 rfl).cells) hk2 (List.all_eq_true.2 hc2) rfl rfl (by omega) (by unfold maxLen; omega) ?_
        intro v7
        refine kt_back (O0 := [bk false ub x2.cells 27, bk false tb x1.cells 39, grpO L']) (by repeat (first | exact SubO.nil | refine SubO.keep ?_ | refine SubO.drop rfl ?_)) ?_
        refine kt_run rfl rfl ?_
        refine k_one (v := .agg x1.cells.toArray) (cs := x1.cells) rfl rfl rfl hs1 rfl rfl rfl ?_
        intro l2
        refine kt_back (O0 := [bk false ub x2.cells 27, bk false tb x1.cells 39, grpO L']) (by repeat (first | exact SubO.nil | refine SubO.keep ?_ | refine SubO.drop rfl ?_)) ?_
        refine kt_run rfl rfl ?_
        refine k_appG (A := [_, _, _, _, _]) (m := 1) (c := 1) (news := x1.cells) rfl rfl rfl (fun w hw => (hw.blk 0 rfl).cells) hk1 (List.all_eq_true.2 hc1) rfl rfl (by omega) (by unfold maxLen; omega) ?_
        intro v3
        refine kt_back (O0 := [bk false ub x2.cells 27, bk false tb x1.cells 39, grpO L']) (by repeat (first | exact SubO.nil | refine SubO.keep ?_ | refine SubO.drop rfl ?_)) ?_
        refine twalkB ?_
        refine walkB ?_
        refine k_round (k + 1, v3, v7, as1 ++ [x1], bs1 ++ [x2], L') (by repeat (first | exact Sub.nil | refine Sub.cons rfl ?_)) (by dsimp only; rw [hfa, hfb, hla, hlb]; exact (by repeat (first | exact SubO.nil | refine SubO.keep ?_ | refine SubO.drop rfl ?_))) ⟨by omega, by omega, hA', hB', hLL⟩ (by dsimp only; omega)
  · have hkl : its.take k = its.take 20 := by
      rcases (by omega : k = its.length ∨ k = 20) with h | h
      · subst h; rw [List.take_length, List.take_of_length_le (by omega)]
      · rw [h]
    rw [hkl] at hA hB
    rcases (by omega : ¬ k < its.length ∨ (k < its.length ∧ ¬ k < 20)) with hh | ⟨hh, hh2⟩
    · refine walkB ?_
      refine k_ret2 rfl rfl rfl fun w hw => ⟨(av, bv, as1, bs1, L), rfl, ⟨hA, hB, hL⟩, hw⟩
    · refine walkB ?_
      refine k_ret2 rfl rfl rfl fun w hw => ⟨(av, bv, as1, bs1, L), rfl, ⟨hA, hB, hL⟩, hw⟩
end Go.Proofs.YtddiecdoaggaaaaDoor
