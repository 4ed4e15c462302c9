/- The law's items. The walk of FeedruleLater. The reference's before and Select. The walk of FeedruleSelects. -/
import Derived.Test.YtddiecdoaggaaaaGreatDoorFeedS
import Derived.Test.YtddiecdoaggaaaaGreatDoorKits
import Derived.Test.YtddiecdoaggaaaaGreatDoorFeedL
import Derived.Test.YtddiecdoaggaaaaGreatDoorRefK
namespace Go.Proofs.YtddiecdoaggaaaaGreatDoor
open Go.RowKit Go.Sort

/-- Rows of strings that are known. -/
def grpO (L : List (Value × List ByteArray)) : Own := fct (fun k => ∃ p ∈ L, p.1.ownBlock = some k) (fun w => ∀ p ∈ L, w.ownsRow 0 9 1 p.1 p.2.length (p.2.map Value.string)) (fun w w' h hp p hpL =>
  (row false p.1 p.2.length (p.2.map Value.string) 9 1).loc w w' (fun b hb => h b ⟨p, hpL, hb⟩) (hp p hpL))
def cutG (x : ItX) : ItX := { x with gv := .slice none 0 0, gs := x.gs.take 20 }
def noG (x : ItX) : ItX := { x with gv := .slice none 0 0 }
def pairG (x : ItX) : Value × List ByteArray := (x.gv, x.gs)
theorem noG_due (nb : ByteArray) (mb dl : Int) (dists : List ByteArray) (items : List (Nat × List Elem)) (now : Int) (x : ItX) : dueNow nb mb dl dists items now (noG x) = dueNow nb mb dl dists items now x := rfl
theorem foundL_noG (nb : ByteArray) (mb dl : Int) (dists : List ByteArray) (items : List (Nat × List Elem)) (now : Int) (l : List ItX) : foundL nb mb dl dists items now (l.map noG) = foundL nb mb dl dists items now l := by
  unfold foundL
  rw [List.filterMap_map]
  rfl
/-- An item as1 an argument. -/
def ItX.Arg (w : World) (x : ItX) : Prop := ∃ ea cap, x.gv = .slice ea x.gs.length cap ∧ StrsN w ea cap x.gs ∧ x.gs.length ≤ maxLen
theorem ItX.cells_one (x : ItX) (h : x.gv.oneCell' = true) : ∀ v ∈ x.cells, v.oneCell' = true := by
  intro v hv
  unfold ItX.cells fitemC at hv
  rcases List.mem_append.1 hv with hv | hv
  · exact List.all_eq_true.1 (u8C_one _) v hv
  · simp only [List.mem_cons, List.not_mem_nil, or_false] at hv
    rcases hv with rfl | rfl | rfl | rfl | rfl | rfl <;> first | exact h | rfl
set_option maxRecDepth 100000
attribute [local irreducible] K KS KLeft KRound J OV EV EU Blk wpList Code.wp bodyPost Exit.then Exit.inBlock Round Left Hid JS wpStill wpHeld Calls
attribute [local irreducible] wpT
theorem k_grp0 {N : Nat} {env : Env} {r : World} {O : List Own} {F : Act → World → Prop} (h : K N env r (grpO [] :: O) F) : K N env r O F :=
  k_fct0 _ _ _ (fun k ⟨p, hp, _⟩ => by cases hp) (fun w p hp => by cases hp) h
/-- A row joins those that are known. -/
theorem k_grp {N : Nat} {env : Env} {r : World} {A B C : List Own} {F : Act → World → Prop} {v : Value} {gs : List ByteArray} {L : List (Value × List ByteArray)} (h : K N env r (A ++ grpO (L ++ [(v, gs)]) :: (B ++ C)) F) : K N env r (A ++ row false v gs.length (gs.map Value.string) 9 1 :: (B ++ grpO L :: C)) F := by
  refine k_both rfl rfl ?_
  refine k_weak (grpO (L ++ [(v, gs)])) rfl rfl ?_ ?_ h
  · rintro k ⟨p, hp, hk⟩
    rcases List.mem_append.1 hp with hp | hp
    · exact .inr ⟨p, hp, hk⟩
    · rw [List.mem_singleton.1 hp] at hk; exact .inl hk
  · rintro w ⟨h1, h2⟩ p hp
    rcases List.mem_append.1 hp with hp | hp
    · exact h2 p hp
    · rw [List.mem_singleton.1 hp]; exact h1
set_option maxHeartbeats 4000000 in
theorem items_any (ea : Option Addr) (cap : Nat) (its : List ItX) (r : World) (hI : RowIs r ea its.length cap 38 (its.flatMap ItX.cells)) (hok : ∀ x ∈ its, x.Arg r) (hn : its.length ≤ 9223372036854775807) :
    Calls Tryz.prog 8 #[.slice ea its.length cap] r fun e w' => ∃ s : Value × Value × List ItX × List ItX × List (Value × List ByteArray), e = .returned (.tuple #[s.1, s.2.1]) ∧ (s.2.2.1.map noG = (its.take 20).map cutG ∧ s.2.2.2.1.map noG = (its.take 20).map cutG ∧ ∀ x, (x ∈ s.2.2.1 ∨ x ∈ s.2.2.2.1) → pairG x ∈ s.2.2.2.2) ∧
      Sat r [grpO s.2.2.2.2, row false s.1 s.2.2.1.length (s.2.2.1.flatMap ItX.cells) 55 38, row false s.2.1 s.2.2.2.1.length (s.2.2.2.1.flatMap ItX.cells) 72 38] w' := by
  refine k_enter (N := 37) Tryz.func8 rfl rfl rfl ?_
  refine walkB ?_
  refine k_nilrow 72 38 ?_
  refine k_nilrow 55 38 ?_
  refine k_grp0 ?_
  refine k_loop (σ := Nat × Value × Value × List ItX × List ItX × List (Value × List ByteArray)) (fun t => [(0, .slice ea its.length cap), (4, t.2.1), (5, t.2.2.1), (6, .int .i64 t.1)]) (fun t => [grpO t.2.2.2.2.2, row false t.2.1 t.2.2.2.1.length (t.2.2.2.1.flatMap ItX.cells) 55 38, row false t.2.2.1 t.2.2.2.2.1.length (t.2.2.2.2.1.flatMap ItX.cells) 72 38])
    (fun t => t.1 ≤ its.length ∧ t.1 ≤ 20 ∧ t.2.2.2.1.map noG = (its.take t.1).map cutG ∧ t.2.2.2.2.1.map noG = (its.take t.1).map cutG ∧ ∀ x, (x ∈ t.2.2.2.1 ∨ x ∈ t.2.2.2.2.1) → pairG x ∈ t.2.2.2.2.2) (fun t => its.length - t.1) (0, .slice none 0 0, .slice none 0 0, [], [], []) (by repeat (first | exact Sub.nil | refine Sub.cons rfl ?_)) (by repeat (first | exact SubO.nil | refine SubO.keep ?_ | refine SubO.drop rfl ?_)) ⟨Nat.zero_le _, Nat.zero_le _, rfl, rfl, by simp⟩ ?_
  rintro ⟨k, av, bv, as1, bs1, L⟩ ⟨hk, hk20, hA, hB, hL⟩
  dsimp only at hk hk20 hA hB hL ⊢
  by_cases hlt : k < its.length ∧ k < 20
  · have hcs := flat_cells ItX.len (List.getElem?_eq_getElem hlt.1)
    have hxo := hok its[k] (List.getElem_mem hlt.1)
    have htk : its.take (k + 1) = its.take k ++ [its[k]] := List.take_succ_eq_append_getElem hlt.1
    obtain ⟨g, o, rfl⟩ : ∃ g o, ea = some ⟨g, o, none⟩ := by
      have h0 : 0 < (its.flatMap ItX.cells).length := by rw [hI.2.2.1]; omega
      obtain ⟨ad, h1, hcl⟩ := hI.2.2.2 0 _ (List.getElem?_eq_getElem h0)
      have h2 := World.cell?_spot hcl
      obtain ⟨g, o, s⟩ := ad
      have h2 : s = none := by simpa [Addr.add] using h2
      subst h2
      exact ⟨g, o, h1⟩
    generalize its[k] = x at hcs hxo htk
    have hal : as1.length = k := by have := congrArg List.length hA; simp [List.length_take] at this; omega
    have hbl : bs1.length = k := by have := congrArg List.length hB; simp [List.length_take] at this; omega
    have hxl := ItX.len x
    obtain ⟨xe, xc, hxv, hxs, hxm⟩ := hxo
    refine walkB ?_
    refine k_op rfl (fun w hw => ov_rowAgg (hI.ext (hw.below rfl)) rfl hxl hcs) ?_
    refine k_callS (σ := Value × Value) (ok := fun _ => True) (val := fun s => .tuple #[.agg (ItX.cells { x with gv := s.1, gs := x.gs.take 20 }).toArray, .agg (ItX.cells { x with gv := s.2, gs := x.gs.take 20 }).toArray]) (own := fun s => [row false s.1 (x.gs.take 20).length ((x.gs.take 20).map Value.string) 9 1, row false s.2 (x.gs.take 20).length ((x.gs.take 20).map Value.string) 9 1]) (fun _ => rfl) (by kernel_rfl) rfl rfl (fun w hw => by
      have h := item_anyN x.id.1 xe xc x.gs x.d x.n x.c x.f x.a w x.id.2 (hxs.ext (hw.below rfl)) hxm
      have e1 : x.cells = fitemC (x.id.1.map fun c => Value.int .u8 c.toNat) (.slice xe x.gs.length xc) x.d x.n x.c x.f x.a := by unfold ItX.cells; rw [hxv]; rfl
      rw [e1]
      exact h.mono fun e w' ⟨v1, v2, h1, h2⟩ => ⟨(v1, v2), h1, trivial, h2⟩) ?_
    rintro ⟨v1, v2⟩ -
    dsimp only [List.cons_append, List.nil_append]
    refine k_rowslice 0 rfl ?_
    rintro ⟨e1, c1, rfl⟩
    refine k_rowslice 1 rfl ?_
    rintro ⟨e2, c2, rfl⟩
    generalize hv1e : Value.slice e1 (x.gs.take 20).length c1 = v1
    generalize hv2e : Value.slice e2 (x.gs.take 20).length c2 = v2
    have hv1 : v1.oneCell' = true := by rw [← hv1e]; rfl
    have hv2 : v2.oneCell' = true := by rw [← hv2e]; rfl
    refine k_grp (A := [row false v1 (x.gs.take 20).length ((x.gs.take 20).map Value.string) 9 1]) (B := []) (v := v2) (gs := x.gs.take 20) (L := L) ?_
    refine k_grp (A := []) (B := []) (v := v1) (gs := x.gs.take 20) ?_
    dsimp only [List.nil_append, List.append_nil]
    generalize hL' : L ++ [(v2, x.gs.take 20)] ++ [(v1, x.gs.take 20)] = L'
    have hin : ∀ p, (p ∈ L ∨ p = (v1, x.gs.take 20) ∨ p = (v2, x.gs.take 20)) → p ∈ L' := by
      intro p hp
      rw [← hL']
      simp only [List.mem_append, List.mem_singleton]
      rcases hp with h | h | h <;> simp [h]
    generalize hx1 : ({ x with gv := v1, gs := x.gs.take 20 } : ItX) = x1
    generalize hx2 : ({ x with gv := v2, gs := x.gs.take 20 } : ItX) = x2
    have hc1 := ItX.cells_one x1 (by rw [← hx1]; exact hv1)
    have hc2 := ItX.cells_one x2 (by rw [← hx2]; exact hv2)
    have hk1 := ItX.len x1
    have hk2 := ItX.len x2
    have hA' : (as1 ++ [x1]).map noG = (its.take (k + 1)).map cutG := by rw [htk, List.map_append, List.map_append, hA, ← hx1]; rfl
    have hB' : (bs1 ++ [x2]).map noG = (its.take (k + 1)).map cutG := by rw [htk, List.map_append, List.map_append, hB, ← hx2]; rfl
    have hLL : ∀ y, (y ∈ as1 ++ [x1] ∨ y ∈ bs1 ++ [x2]) → pairG y ∈ L' := by
      intro y hy
      simp only [List.mem_append, List.mem_singleton] at hy
      rcases hy with (h | h) | (h | h)
      · exact hin _ (.inl (hL y (.inl h)))
      · subst h; rw [← hx1]; exact hin _ (.inr (.inl rfl))
      · exact hin _ (.inl (hL y (.inr h)))
      · subst h; rw [← hx2]; exact hin _ (.inr (.inr rfl))
    clear hx1 hx2
    refine walkB ?_
    refine k_alloc (cs := z32 ++ [.slice none 0 0, .string ⟨#[]⟩, .int .i64 0, .bool false, .string ⟨#[]⟩, .int .i64 0]) rfl rfl ?_
    intro tb
    refine walkB ?_
    refine k_alloc (cs := z32 ++ [.slice none 0 0, .string ⟨#[]⟩, .int .i64 0, .bool false, .string ⟨#[]⟩, .int .i64 0]) rfl rfl ?_
    intro ub
    refine k_cpA1 rfl rfl rfl (List.all_eq_true.2 hc1) rfl hk1 ?_
    refine k_cpA0 rfl rfl rfl (List.all_eq_true.2 hc2) rfl hk2 ?_
    refine walkB ?_
    have hs1 : (Value.agg x1.cells.toArray).cells.size = 38 := by show x1.cells.toArray.size = 38; simpa using hk1
    have hs2 : (Value.agg x2.cells.toArray).cells.size = 38 := by show x2.cells.toArray.size = 38; simpa using hk2
    rw [hal, hbl]
    have hfa : (as1 ++ [x1]).flatMap ItX.cells = as1.flatMap ItX.cells ++ x1.cells := by simp
    have hfb : (bs1 ++ [x2]).flatMap ItX.cells = bs1.flatMap ItX.cells ++ x2.cells := by simp
    have hla : (as1 ++ [x1]).length = k + 1 := by simp [hal]
    have hlb : (bs1 ++ [x2]).length = k + 1 := by simp [hbl]
    refine k_heldTrS 10 (.one 0 (.one 1 (.one 4 (.one 5 (.two 2 (.two 6 (.two 3 (.one 7 (.one 8 (.one 9 .nil))) 7 (.one 3 (.one 8 (.one 9 .nil)))) 3 (.one 6 (.one 7 (.one 8 (.one 9 .nil))))) 6 (.two 2 (.two 3 (.one 7 (.one 8 (.one 9 .nil))) 7 (.one 3 (.one 8 (.one 9 .nil)))) 7 (.one 2 (.one 3 (.one 8 (.one 9 .nil)))))))))) [bk false ub x2.cells 72, bk false tb x1.cells 55, grpO L'] (by repeat (first | exact SubO.nil | refine SubO.keep ?_ | refine SubO.drop rfl ?_)) (by kernel_rfl) (by kernel_rfl) ?_
    refine twalkB ?_
    refine kt_two rfl rfl ?_ ?_
    · refine k_one (v := .agg x1.cells.toArray) (cs := x1.cells) rfl rfl rfl hs1 rfl rfl rfl ?_
      intro l2
      refine kt_back (O0 := [bk false ub x2.cells 72, bk false tb x1.cells 55, grpO L']) (by repeat (first | exact SubO.nil | refine SubO.keep ?_ | refine SubO.drop rfl ?_)) ?_
      refine kt_two rfl rfl ?_ ?_
      · refine k_one (v := .agg x2.cells.toArray) (cs := x2.cells) rfl rfl rfl hs2 rfl rfl rfl ?_
        intro l6
        refine kt_back (O0 := [bk false ub x2.cells 72, bk false tb x1.cells 55, grpO L']) (by repeat (first | exact SubO.nil | refine SubO.keep ?_ | refine SubO.drop rfl ?_)) ?_
        refine kt_two rfl rfl ?_ ?_
        · refine k_appG (A := [_, _, _, _, _]) (m := 1) (c := 1) (news := x1.cells) rfl rfl rfl (fun w hw => (hw.blk 1 rfl).cells) hk1 (List.all_eq_true.2 hc1) rfl rfl (by omega) (by unfold maxLen; omega) ?_
          intro v3
          refine kt_back (O0 := [bk false ub x2.cells 72, bk false tb x1.cells 55, grpO L']) (by repeat (first | exact SubO.nil | refine SubO.keep ?_ | refine SubO.drop rfl ?_)) ?_
          refine kt_run rfl rfl ?_
          refine k_appG (A := [_, _, _, _, _, _]) (m := 1) (c := 1) (news := x2.cells) rfl rfl rfl (fun w hw => (hw.blk 0 rfl).cells) hk2 (List.all_eq_true.2 hc2) rfl rfl (by omega) (by unfold maxLen; omega) ?_
          intro v7
          refine kt_back (O0 := [bk false ub x2.cells 72, bk false tb x1.cells 55, grpO L']) (by repeat (first | exact SubO.nil | refine SubO.keep ?_ | refine SubO.drop rfl ?_)) ?_
          refine twalkB ?_
          refine walkB ?_
          refine k_round (k + 1, v3, v7, as1 ++ [x1], bs1 ++ [x2], L') (by repeat (first | exact Sub.nil | refine Sub.cons rfl ?_)) (by dsimp only; rw [hfa, hfb, hla, hlb]; exact (by repeat (first | exact SubO.nil | refine SubO.keep ?_ | refine SubO.drop rfl ?_))) ⟨by omega, by omega, hA', hB', hLL⟩ (by dsimp only; omega)
        · refine k_appG (A := [_, _, _, _, _, _]) (m := 1) (c := 1) (news := x2.cells) rfl rfl rfl (fun w hw => (hw.blk 0 rfl).cells) hk2 (List.all_eq_true.2 hc2) rfl rfl (by omega) (by unfold maxLen; omega) ?_
          intro v7
          refine kt_back (O0 := [bk false ub x2.cells 72, bk false tb x1.cells 55, grpO L']) (by repeat (first | exact SubO.nil | refine SubO.keep ?_ | refine SubO.drop rfl ?_)) ?_
          refine kt_run rfl rfl ?_
          refine k_appG (A := [_, _, _, _, _]) (m := 1) (c := 1) (news := x1.cells) rfl rfl rfl (fun w hw => (hw.blk 1 rfl).cells) hk1 (List.all_eq_true.2 hc1) rfl rfl (by omega) (by unfold maxLen; omega) ?_
          intro v3
          refine kt_back (O0 := [bk false ub x2.cells 72, bk false tb x1.cells 55, grpO L']) (by repeat (first | exact SubO.nil | refine SubO.keep ?_ | refine SubO.drop rfl ?_)) ?_
          refine twalkB ?_
          refine walkB ?_
          refine k_round (k + 1, v3, v7, as1 ++ [x1], bs1 ++ [x2], L') (by repeat (first | exact Sub.nil | refine Sub.cons rfl ?_)) (by dsimp only; rw [hfa, hfb, hla, hlb]; exact (by repeat (first | exact SubO.nil | refine SubO.keep ?_ | refine SubO.drop rfl ?_))) ⟨by omega, by omega, hA', hB', hLL⟩ (by dsimp only; omega)
      · refine k_appG (A := [_, _, _, _]) (m := 1) (c := 1) (news := x1.cells) rfl rfl rfl (fun w hw => (hw.blk 0 rfl).cells) hk1 (List.all_eq_true.2 hc1) rfl rfl (by omega) (by unfold maxLen; omega) ?_
        intro v3
        refine kt_back (O0 := [bk false ub x2.cells 72, bk false tb x1.cells 55, grpO L']) (by repeat (first | exact SubO.nil | refine SubO.keep ?_ | refine SubO.drop rfl ?_)) ?_
        refine kt_run rfl rfl ?_
        refine k_one (v := .agg x2.cells.toArray) (cs := x2.cells) rfl rfl rfl hs2 rfl rfl rfl ?_
        intro l6
        refine kt_back (O0 := [bk false ub x2.cells 72, bk false tb x1.cells 55, grpO L']) (by repeat (first | exact SubO.nil | refine SubO.keep ?_ | refine SubO.drop rfl ?_)) ?_
        refine kt_run rfl rfl ?_
        refine k_appG (A := [_, _, _, _, _, _]) (m := 1) (c := 1) (news := x2.cells) rfl rfl rfl (fun w hw => (hw.blk 0 rfl).cells) hk2 (List.all_eq_true.2 hc2) rfl rfl (by omega) (by unfold maxLen; omega) ?_
        intro v7
        refine kt_back (O0 := [bk false ub x2.cells 72, bk false tb x1.cells 55, grpO L']) (by repeat (first | exact SubO.nil | refine SubO.keep ?_ | refine SubO.drop rfl ?_)) ?_
        refine twalkB ?_
        refine walkB ?_
        refine k_round (k + 1, v3, v7, as1 ++ [x1], bs1 ++ [x2], L') (by repeat (first | exact Sub.nil | refine Sub.cons rfl ?_)) (by dsimp only; rw [hfa, hfb, hla, hlb]; exact (by repeat (first | exact SubO.nil | refine SubO.keep ?_ | refine SubO.drop rfl ?_))) ⟨by omega, by omega, hA', hB', hLL⟩ (by dsimp only; omega)
    · refine k_one (v := .agg x2.cells.toArray) (cs := x2.cells) rfl rfl rfl hs2 rfl rfl rfl ?_
      intro l6
      refine kt_back (O0 := [bk false ub x2.cells 72, bk false tb x1.cells 55, grpO L']) (by repeat (first | exact SubO.nil | refine SubO.keep ?_ | refine SubO.drop rfl ?_)) ?_
      refine kt_two rfl rfl ?_ ?_
      · refine k_one (v := .agg x1.cells.toArray) (cs := x1.cells) rfl rfl rfl hs1 rfl rfl rfl ?_
        intro l2
        refine kt_back (O0 := [bk false ub x2.cells 72, bk false tb x1.cells 55, grpO L']) (by repeat (first | exact SubO.nil | refine SubO.keep ?_ | refine SubO.drop rfl ?_)) ?_
        refine kt_two rfl rfl ?_ ?_
        · refine k_appG (A := [_, _, _, _, _]) (m := 1) (c := 1) (news := x1.cells) rfl rfl rfl (fun w hw => (hw.blk 0 rfl).cells) hk1 (List.all_eq_true.2 hc1) rfl rfl (by omega) (by unfold maxLen; omega) ?_
          intro v3
          refine kt_back (O0 := [bk false ub x2.cells 72, bk false tb x1.cells 55, grpO L']) (by repeat (first | exact SubO.nil | refine SubO.keep ?_ | refine SubO.drop rfl ?_)) ?_
          refine kt_run rfl rfl ?_
          refine k_appG (A := [_, _, _, _, _, _]) (m := 1) (c := 1) (news := x2.cells) rfl rfl rfl (fun w hw => (hw.blk 1 rfl).cells) hk2 (List.all_eq_true.2 hc2) rfl rfl (by omega) (by unfold maxLen; omega) ?_
          intro v7
          refine kt_back (O0 := [bk false ub x2.cells 72, bk false tb x1.cells 55, grpO L']) (by repeat (first | exact SubO.nil | refine SubO.keep ?_ | refine SubO.drop rfl ?_)) ?_
          refine twalkB ?_
          refine walkB ?_
          refine k_round (k + 1, v3, v7, as1 ++ [x1], bs1 ++ [x2], L') (by repeat (first | exact Sub.nil | refine Sub.cons rfl ?_)) (by dsimp only; rw [hfa, hfb, hla, hlb]; exact (by repeat (first | exact SubO.nil | refine SubO.keep ?_ | refine SubO.drop rfl ?_))) ⟨by omega, by omega, hA', hB', hLL⟩ (by dsimp only; omega)
        · refine k_appG (A := [_, _, _, _, _, _]) (m := 1) (c := 1) (news := x2.cells) rfl rfl rfl (fun w hw => (hw.blk 1 rfl).cells) hk2 (List.all_eq_true.2 hc2) rfl rfl (by omega) (by unfold maxLen; omega) ?_
          intro v7
          refine kt_back (O0 := [bk false ub x2.cells 72, bk false tb x1.cells 55, grpO L']) (by repeat (first | exact SubO.nil | refine SubO.keep ?_ | refine SubO.drop rfl ?_)) ?_
          refine kt_run rfl rfl ?_
          refine k_appG (A := [_, _, _, _, _]) (m := 1) (c := 1) (news := x1.cells) rfl rfl rfl (fun w hw => (hw.blk 0 rfl).cells) hk1 (List.all_eq_true.2 hc1) rfl rfl (by omega) (by unfold maxLen; omega) ?_
          intro v3
          refine kt_back (O0 := [bk false ub x2.cells 72, bk false tb x1.cells 55, grpO L']) (by repeat (first | exact SubO.nil | refine SubO.keep ?_ | refine SubO.drop rfl ?_)) ?_
          refine twalkB ?_
          refine walkB ?_
          refine k_round (k + 1, v3, v7, as1 ++ [x1], bs1 ++ [x2], L') (by repeat (first | exact Sub.nil | refine Sub.cons rfl ?_)) (by dsimp only; rw [hfa, hfb, hla, hlb]; exact (by repeat (first | exact SubO.nil | refine SubO.keep ?_ | refine SubO.drop rfl ?_))) ⟨by omega, by omega, hA', hB', hLL⟩ (by dsimp only; omega)
      · refine k_appG (A := [_, _, _, _, _]) (m := 1) (c := 1) (news := x2.cells) rfl rfl rfl (fun w hw => (hw.blk 0 rfl).cells) hk2 (List.all_eq_true.2 hc2) rfl rfl (by omega) (by unfold maxLen; omega) ?_
        intro v7
        refine kt_back (O0 := [bk false ub x2.cells 72, bk false tb x1.cells 55, grpO L']) (by repeat (first | exact SubO.nil | refine SubO.keep ?_ | refine SubO.drop rfl ?_)) ?_
        refine kt_run rfl rfl ?_
        refine k_one (v := .agg x1.cells.toArray) (cs := x1.cells) rfl rfl rfl hs1 rfl rfl rfl ?_
        intro l2
        refine kt_back (O0 := [bk false ub x2.cells 72, bk false tb x1.cells 55, grpO L']) (by repeat (first | exact SubO.nil | refine SubO.keep ?_ | refine SubO.drop rfl ?_)) ?_
        refine kt_run rfl rfl ?_
        refine k_appG (A := [_, _, _, _, _]) (m := 1) (c := 1) (news := x1.cells) rfl rfl rfl (fun w hw => (hw.blk 0 rfl).cells) hk1 (List.all_eq_true.2 hc1) rfl rfl (by omega) (by unfold maxLen; omega) ?_
        intro v3
        refine kt_back (O0 := [bk false ub x2.cells 72, bk false tb x1.cells 55, grpO L']) (by repeat (first | exact SubO.nil | refine SubO.keep ?_ | refine SubO.drop rfl ?_)) ?_
        refine twalkB ?_
        refine walkB ?_
        refine k_round (k + 1, v3, v7, as1 ++ [x1], bs1 ++ [x2], L') (by repeat (first | exact Sub.nil | refine Sub.cons rfl ?_)) (by dsimp only; rw [hfa, hfb, hla, hlb]; exact (by repeat (first | exact SubO.nil | refine SubO.keep ?_ | refine SubO.drop rfl ?_))) ⟨by omega, by omega, hA', hB', hLL⟩ (by dsimp only; omega)
  · have hkl : its.take k = its.take 20 := by
      rcases (by omega : k = its.length ∨ k = 20) with h | h
      · subst h; rw [List.take_length, List.take_of_length_le (by omega)]
      · rw [h]
    rw [hkl] at hA hB
    rcases (by omega : ¬ k < its.length ∨ (k < its.length ∧ ¬ k < 20)) with hh | ⟨hh, hh2⟩
    · refine walkB ?_
      refine k_ret2 rfl rfl rfl fun w hw => ⟨(av, bv, as1, bs1, L), rfl, ⟨hA, hB, hL⟩, hw⟩
    · refine walkB ?_
      refine k_ret2 rfl rfl rfl fun w hw => ⟨(av, bv, as1, bs1, L), rfl, ⟨hA, hB, hL⟩, hw⟩
end Go.Proofs.YtddiecdoaggaaaaGreatDoor
namespace Go.Proofs.YtddiecdoaggaaaaGreatDoor
open Go.RowKit Go.Sort

theorem of_cut {as1 its : List ItX} (h : as1.map noG = (its.take 20).map cutG) {x : ItX} (hx : x ∈ as1) : ∃ y ∈ its, x.gs = y.gs.take 20 ∧ x.a = y.a := by
  have h1 : noG x ∈ (its.take 20).map cutG := h ▸ List.mem_map_of_mem hx
  obtain ⟨y, hy, e⟩ := List.mem_map.1 h1
  exact ⟨y, List.mem_of_mem_take hy, (congrArg ItX.gs e).symm, (congrArg ItX.a e).symm⟩
theorem len_cut {as1 its : List ItX} (h : as1.map noG = (its.take 20).map cutG) : as1.length ≤ 20 := by
  have := congrArg List.length h
  simp at this
  omega
theorem dueNow_mono {nb : ByteArray} {mb dl : Int} {dists : List ByteArray} {items : List (Nat × List Elem)} {now later : Int} (h : now ≤ later) {x : ItX} {y : DueX} (hy : dueNow nb mb dl dists items now x = some y) : dueNow nb mb dl dists items later x = some y := by
  unfold dueNow at *
  split at hy
  · rename_i h1
    rw [if_pos h1]
    split at hy
    · rename_i h2
      rw [if_pos (by omega)]
      exact hy
    · cases hy
  · cases hy
theorem selL_mem {nb : ByteArray} {mb dl : Int} {dists : List ByteArray} {items : List (Nat × List Elem)} {now : Int} {its : List ItX} {i : Id32} : i ∈ selL nb mb dl dists items now its ↔ ∃ x ∈ its, ∃ y, dueNow nb mb dl dists items now x = some y ∧ y.1 = i := by
  unfold selL
  rw [onceL_mem, List.mem_map]
  constructor
  · rintro ⟨y, hy, rfl⟩
    rw [List.mem_mergeSort] at hy
    obtain ⟨x, hx, h⟩ := List.mem_filterMap.1 hy
    exact ⟨x, hx, y, h, rfl⟩
  · rintro ⟨x, hx, y, hy, rfl⟩
    exact ⟨y, List.mem_mergeSort.2 (List.mem_filterMap.2 ⟨x, hx, hy⟩), rfl⟩
theorem selL_mono {nb : ByteArray} {mb dl : Int} {dists : List ByteArray} {items : List (Nat × List Elem)} {now later : Int} (h : now ≤ later) {its : List ItX} {i : Id32} (hi : i ∈ selL nb mb dl dists items now its) : i ∈ selL nb mb dl dists items later its := by
  obtain ⟨x, hx, y, hy, e⟩ := selL_mem.1 hi
  exact selL_mem.2 ⟨x, hx, y, dueNow_mono h hy, e⟩
theorem selL_len {nb : ByteArray} {mb dl : Int} {dists : List ByteArray} {items : List (Nat × List Elem)} {now : Int} {its : List ItX} : (selL nb mb dl dists items now its).length ≤ its.length := by
  unfold selL
  refine Nat.le_trans (onceL_len _) ?_
  rw [List.length_map, List.length_mergeSort]
  exact List.length_filterMap_le _ _
/-- What the items of an argument are. -/
def ItX.Fit (w : World) (x : ItX) : Prop := x.Arg w ∧ (∀ s ∈ x.gs, s.size ≤ 9223372036854775807) ∧ -9223372036854775808 ≤ x.a ∧ x.a ≤ 9223372036854775807
theorem ok_of_cut {as1 its : List ItX} {L : List (Value × List ByteArray)} {r w : World} (h : as1.map noG = (its.take 20).map cutG) (hok : ∀ x ∈ its, x.Fit r) (hL : ∀ p ∈ L, w.ownsRow 0 9 1 p.1 p.2.length (p.2.map Value.string)) (hm : ∀ x ∈ as1, pairG x ∈ L) : ∀ x ∈ as1, x.Ok w := by
  intro x hx
  obtain ⟨y, hy, e1, e2⟩ := of_cut h hx
  obtain ⟨_, h2, h3, h4⟩ := hok y hy
  refine ⟨strs_of_row (hL _ (hm x hx)), fun s hs => h2 s (List.mem_of_mem_take (e1 ▸ hs)), ?_, by rw [e2]; exact h3, by rw [e2]; exact h4⟩
  rw [e1, List.length_take]
  omega
theorem spot_own {w : World} {base n cap sz : Nat} {e : TypeId} {ea : Option Addr} {cs : List Value} (h : w.ownsRow base e sz (.slice ea n cap) n cs) : ∀ a, ea = some a → a.spot = none := by
  intro a ha
  obtain ⟨_, h2⟩ := h
  rcases h2 with ⟨h3, _⟩ | ⟨g, cap', cur, h3, _⟩
  · injection h3 with h4; rw [h4] at ha; cases ha
  · injection h3 with h4; rw [h4] at ha; cases ha; rfl
set_option maxRecDepth 100000
attribute [local irreducible] K KS KLeft KRound J OV EV EU Blk wpList Code.wp bodyPost Exit.then Exit.inBlock Round Left Hid JS wpStill wpHeld Calls
attribute [local irreducible] reasonP dueP selL
end Go.Proofs.YtddiecdoaggaaaaGreatDoor
namespace Go.Proofs.YtddiecdoaggaaaaGreatDoor
open Go.RowKit Go.Sort

section
variable {P : Program} {env : Env} {w : World}
theorem fold_push : ∀ (l : List UInt8) (s : ByteArray), (l.map fun c => ((c.toNat : Nat) : Int)).foldl (fun r n => r.push (UInt8.ofNat n.toNat)) s = ⟨s.data ++ l.toArray⟩
  | [], s => by simp
  | c :: l, s => by
    rw [List.map_cons, List.foldl_cons, fold_push l]
    have e : UInt8.ofNat ((c.toNat : Int)).toNat = c := by simp
    rw [e]
    congr 1
    show (s.data.push c) ++ l.toArray = _
    rw [Array.push_eq_append]
    simp
/-- Bytes as a string. -/
theorem ov_convBytes {x : Operand} {src dst e : TypeId} {a : Addr} {l : List UInt8} {n c : Nat} [ht : TElem P src e] [he : TIntK P e .u8] (hd : P.underlying dst = some .string) (hn : l.length = n) (hx : evx env x = some (.slice (some a) n c)) (hc : ∀ j u, (u8C l)[j]? = some u → w.cell? (a.add j) = some u) :
    OV P env (.convert src dst x) w (.string ⟨l.toArray⟩) := by
  intro ρ hρ o ho; unfold execOp; rw [ho]
  subst hn
  have e0 : u8C l = (l.map fun c => ((c.toNat : Nat) : Int)).map (Value.int .u8) := by unfold u8C; rw [List.map_map]; rfl
  have h1 := run_loadCells_list (P := P) (w := w) a (u8C l) hc
  rw [u8C_len, e0] at h1
  have h2 := run_convert_bytes_string (P := P) w src dst e (some a) l.length c ht.eq he.eq hd
  have h3 := run_bytesToString (P := P) w a l.length c _ h1
  rw [fold_push] at h3
  simp only [hρ hx, Sem.run_bind, h2, h3, Result.andThen_ok, Sem.run_pure]
  simp
end
theorem toL (l : List UInt8) : (⟨l.toArray⟩ : ByteArray).toList = l := by rw [ByteArray.toList_eq]
/-- What is due of an item. -/
def dueX (dl : Int) (x : ItX) : DueX := (x.id, dueP dl x.a)
theorem ltD (x y : DueX) : decide (cmpD x y < 0) = (decide (x.2 < y.2) || (decide (x.2 = y.2) && Op.bytesLess x.1.1 y.1.1)) := by
  rw [Bool.eq_iff_iff, decide_eq_true_iff, cmpD_lt]
  simp [bytesLess_ltL]
theorem ItX.idAt (x : ItX) {j : Nat} {u : Value} (h : (u8C x.id.1)[j]? = some u) : x.cells[j]? = some u := by
  unfold ItX.cells fitemC
  rw [List.getElem?_append_left (by have := (List.getElem?_eq_some_iff.1 h).1; exact this)]
  exact h
/-- The first cells of an element of a row. -/
theorem ov_rowPart {P : Program} {env : Env} {w : World} {x : Operand} {t : TypeId} {b o i n cap sz k : Nat} {cs c : List Value} [TAgg P t true] [TSize P t k] (hI : RowIs w (some ⟨b, o, none⟩) n cap sz cs) (hx : evx env x = some (.pointer (some ⟨b, o + i * sz + 0, none⟩))) (hl : c.length = k) (hc : ∀ j u, c[j]? = some u → cs[i * sz + j]? = some u) : OV P env (.load t x) w (.agg c.toArray) :=
  ov_loadAgg hx hl fun j u hj => by rw [addr_add, Nat.add_zero, Nat.add_assoc]; exact hI.cell (hc j u hj)
theorem flat_one {l : List ItX} (h : ∀ y ∈ l, y.gv.oneCell' = true) : (l.flatMap ItX.cells).all (·.oneCell') = true := by
  rw [List.all_eq_true]
  intro v hv
  obtain ⟨y, hy, hv⟩ := List.mem_flatMap.1 hv
  exact ItX.cells_one y (h y hy) v hv
theorem take_flat (l : List ItX) (q : Nat) : (l.flatMap ItX.cells).take (q * 38) = (l.take q).flatMap ItX.cells := by
  induction l generalizing q with
  | nil => simp
  | cons x l ih =>
    cases q with
    | zero => simp
    | succ q =>
      rw [List.flatMap_cons, List.take_succ_cons, List.flatMap_cons, List.take_append, ItX.len, List.take_of_length_le (by rw [ItX.len]; omega), show (q + 1) * 38 - 38 = q * 38 by omega, ih]
theorem drop_flat (l : List ItX) (q : Nat) : (l.flatMap ItX.cells).drop (q * 38) = (l.drop q).flatMap ItX.cells := by
  induction l generalizing q with
  | nil => simp
  | cons x l ih =>
    cases q with
    | zero => simp
    | succ q =>
      rw [List.flatMap_cons, List.drop_succ_cons, List.drop_append, ItX.len, List.drop_of_length_le (by rw [ItX.len]; omega), List.nil_append, show (q + 1) * 38 - 38 = q * 38 by omega, ih]
/-! Plain: insertion from the end. -/
theorem cmpD_asymm {x y : DueX} (h : cmpD x y < 0) : ¬ cmpD y x < 0 := by
  intro h2
  have h3 := cmpD_swo
  have e : ∀ x y, ltOf cmpD x y = true ↔ cmpD x y < 0 := fun x y => by unfold ltOf; exact decide_eq_true_iff
  have h4 := h3.trans x y x ((e x y).2 h) ((e y x).2 h2)
  rw [h3.irrefl] at h4
  cases h4
theorem cmpD_ntrans {x y z : DueX} (h1 : ¬ cmpD x y < 0) (h2 : ¬ cmpD y z < 0) : ¬ cmpD x z < 0 := by
  have e2 : ∀ x y, ltOf cmpD x y = false ↔ ¬ cmpD x y < 0 := fun x y => by unfold ltOf; exact decide_eq_false_iff_not
  exact (e2 x z).1 (cmpD_swo.ntrans x y z ((e2 x y).2 h1) ((e2 y z).2 h2))
abbrev SortedD (D : List DueX) : Prop := D.Pairwise fun a b => ¬ cmpD b a < 0
theorem ins_sorted {D : List DueX} {d : DueX} {k : Nat} (hk : k ≤ D.length) (hS : SortedD D) (h1 : ∀ y ∈ D.drop k, cmpD d y < 0) (h2 : ∀ h : k - 1 < D.length, k ≠ 0 → ¬ cmpD d D[k - 1] < 0) : SortedD (D.take k ++ d :: D.drop k) := by
  have hS' := hS
  rw [← List.take_append_drop k D] at hS'
  have h3 := List.pairwise_append.1 hS'
  refine List.pairwise_append.2 ⟨h3.1, List.Pairwise.cons (fun y hy => cmpD_asymm (h1 y hy)) h3.2.1, fun y hy z hz => ?_⟩
  rcases List.mem_cons.1 hz with rfl | hz
  · obtain ⟨i, hi, rfl⟩ := List.mem_iff_getElem.1 hy
    have hik : i < k := by rw [List.length_take] at hi; omega
    rw [List.getElem_take]
    have h4 := h2 (by omega) (by omega)
    by_cases e : i = k - 1
    · subst e; exact h4
    · exact cmpD_ntrans h4 (List.pairwise_iff_getElem.1 hS i (k - 1) (by omega) (by omega) (by omega))
  · exact h3.2.2 y hy z hz
theorem ins_perm {α : Type} (D : List α) (d : α) (k : Nat) : (D.take k ++ d :: D.drop k).Perm (D ++ [d]) := by
  refine List.perm_middle.trans ?_
  rw [List.take_append_drop]
  exact (List.perm_append_singleton d D).symm
theorem sorted_uniq {D E : List DueX} (hp : D.Perm E) (h1 : SortedD D) (h2 : SortedD E) : D = E :=
  hp.eq_of_pairwise (fun a b _ _ h3 h4 => cmpD_tot a b h4 h3) h1 h2
set_option maxRecDepth 100000
attribute [local irreducible] K KS KLeft KRound J OV EV EU Blk wpList Code.wp bodyPost Exit.then Exit.inBlock Round Left Hid JS wpStill wpHeld Calls
attribute [local irreducible] dueP reasonP
set_option maxHeartbeats 2000000 in
theorem before_any (nb pats : ByteArray) (mb dl : Int) (dv : Value) (x y : ItX) (r : World) (hdv : dv.oneCell' = true) (hx : x.gv.oneCell' = true) (hy : y.gv.oneCell' = true) (hdl : 0 ≤ dl ∧ dl ≤ 20160) (hxa : -9223372036854775808 ≤ x.a ∧ x.a ≤ 9223372036854775807) (hya : -9223372036854775808 ≤ y.a ∧ y.a ≤ 9223372036854775807) :
    Calls Tryz.prog 32 #[.agg #[.string nb, .string pats, .int .i64 mb, .int .i64 dl, dv], .agg x.cells.toArray, .agg y.cells.toArray] r fun e w' => e = .returned (.bool (decide (cmpD (dueX dl x) (dueX dl y) < 0))) ∧ Below r.heap.size r w' := by
  have hxp : (x.cells.drop 0).take 32 = u8C x.id.1 := by
    unfold ItX.cells fitemC
    rw [List.drop_zero, List.take_append_of_le_length (by rw [idC_len]; omega), List.take_of_length_le (by rw [idC_len]; omega)]; rfl
  have hyp : (y.cells.drop 0).take 32 = u8C y.id.1 := by
    unfold ItX.cells fitemC
    rw [List.drop_zero, List.take_append_of_le_length (by rw [idC_len]; omega), List.take_of_length_le (by rw [idC_len]; omega)]; rfl
  have hxl := ItX.len x
  have hyl := ItX.len y
  have hx1 := ItX.cells_one x hx
  have hy1 := ItX.cells_one y hy
  rw [ltD]
  refine k_enter (N := 32) Tryz.func32 rfl rfl rfl ?_
  refine walkB ?_
  refine k_box (cs := [.string nb, .string pats, .int .i64 mb, .int .i64 dl, dv]) rfl rfl rfl ?_
  intro b0
  refine k_box (cs := x.cells) rfl rfl rfl ?_
  intro b1
  refine k_box (cs := y.cells) rfl rfl rfl ?_
  intro b2
  refine walkB ?_
  refine k_held 8 [0, 1, 3, 4, 2, 5, 6, 7] (by kernel_rfl) (by kernel_rfl) ?_
  dsimp only [pickL, nth, List.drop]
  refine hwalkB ?_
  refine kh_callb (by kernel_rfl) rfl rfl (fun w hw => refDue_any (ic := idC x.id) (gv := x.gv) (d := x.d) (n := x.n) (c := x.c) (f := x.f) (a := x.a) nb pats mb dl dv w hdv (idC_len x.id) hx hdl hxa.1 hxa.2) ?_
  refine kh_callb (by kernel_rfl) rfl rfl (fun w hw => refDue_any (ic := idC y.id) (gv := y.gv) (d := y.d) (n := y.n) (c := y.c) (f := y.f) (a := y.a) nb pats mb dl dv w hdv (idC_len y.id) hy hdl hya.1 hya.2) ?_
  refine hwalkB ?_
  refine walkB ?_
  unfold dueX
  dsimp only
  generalize dueP dl x.a = p
  generalize dueP dl y.a = q
  by_cases hpq : p < q
  · refine k_held 18 [0, 1, 2, 3, 4, 5, 6, 7, 8, 9, 10, 11, 12, 13, 14, 15, 16, 17] (by kernel_rfl) (by kernel_rfl) ?_
    dsimp only [pickL, nth, List.drop]
    refine hwalkB ?_
    refine walkB ?_
    exact k_ret1 rfl rfl fun w hw => ⟨by rw [decide_eq_true hpq]; rfl, hw.below rfl⟩
  · by_cases heq : p = q
    · refine k_held 18 [0, 1, 2, 3, 4, 5, 6, 7, 8, 9, 10, 11, 12, 13, 14, 15, 16, 17] (by kernel_rfl) (by kernel_rfl) ?_
      dsimp only [pickL, nth, List.drop]
      refine hwalkB ?_
      refine kh_yes rfl rfl rfl rfl rfl (fun w hw => ov_arrall rfl) ?_
      refine kh_yes rfl rfl rfl rfl rfl (fun w hw => ov_convBytes (l := x.id.1) Tryz.underlying9 x.id.2 rfl fun j u h => (hw.blk 1 rfl).cells j u (x.idAt h)) ?_
      refine hwalkB ?_
      refine kh_yes rfl rfl rfl rfl rfl (fun w hw => ov_arrall rfl) ?_
      refine kh_yes rfl rfl rfl rfl rfl (fun w hw => ov_convBytes (l := y.id.1) Tryz.underlying9 y.id.2 rfl fun j u h => (hw.blk 0 rfl).cells j u (y.idAt h)) ?_
      refine kh_yes rfl rfl rfl rfl rfl (fun w hw => ov_slss rfl rfl) ?_
      rw [toL, toL]
      refine hwalkB ?_
      refine walkB ?_
      exact k_ret1 rfl rfl fun w hw => ⟨by rw [decide_eq_false hpq, decide_eq_true heq]; rfl, hw.below rfl⟩
    · refine k_held 18 [0, 1, 2, 3, 4, 5, 6, 7, 8, 9, 10, 11, 12, 13, 14, 15, 16, 17] (by kernel_rfl) (by kernel_rfl) ?_
      dsimp only [pickL, nth, List.drop]
      refine hwalkB ?_
      refine walkB ?_
      exact k_ret1 rfl rfl fun w hw => ⟨by rw [decide_eq_false hpq, decide_eq_false heq]; rfl, hw.below rfl⟩
theorem dueNow_some {nb : ByteArray} {mb dl : Int} {dists : List ByteArray} {items : List (Nat × List Elem)} {now : Int} {x : ItX} (h1 : reasonP nb mb dists items x.gs x.d x.n x.c x.f = 0) (h2 : dueP dl x.a ≤ now) : dueNow nb mb dl dists items now x = some (dueX dl x) := by
  unfold dueNow itReason; rw [if_pos h1, if_pos h2]; rfl
theorem dueNow_none {nb : ByteArray} {mb dl : Int} {dists : List ByteArray} {items : List (Nat × List Elem)} {now : Int} {x : ItX} (h : reasonP nb mb dists items x.gs x.d x.n x.c x.f ≠ 0 ∨ ¬ dueP dl x.a ≤ now) : dueNow nb mb dl dists items now x = none := by
  unfold dueNow itReason
  split
  · rename_i h1
    rw [if_neg (h.resolve_left fun h2 => h2 h1)]
  · rfl
attribute [local irreducible] selL dueNow foundL
set_option maxHeartbeats 8000000 in
theorem refSelect_any (nb pats : ByteArray) (mb dl : Int) (dv : Value) (dists : List ByteArray) {items : List (Nat × List Elem)} (ea : Option Addr) (cap : Nat) (its : List ItX) (now : Int) (r : World) (hps : pats.size ≤ 1000000000000) (hP : parseP pats.data.toList = .inl items) (hd : StrsAt r dv dists) (hdn : dists.length ≤ 2000000) (hdl : 0 ≤ dl ∧ dl ≤ 20160)
    (hI : RowIs r ea its.length cap 38 (its.flatMap ItX.cells)) (hok : ∀ x ∈ its, x.Ok r ∧ ∀ s ∈ x.gs, s.size ≤ 281474976710655) (hn : its.length ≤ 1000000) :
    Calls Tryz.prog 10 #[.agg [.string nb, .string pats, .int .i64 mb, .int .i64 dl, dv].toArray, .slice ea its.length cap, .int .i64 now] r fun e w' => ∃ v, e = .returned v ∧ True ∧ Sat r [row false v (selL nb mb dl dists items now its).length ((selL nb mb dl dists items now its).flatMap idC) 42 32] w' := by
  have hdv : dv.oneCell' = true := by obtain ⟨_, _, rfl, _⟩ := hd; rfl
  refine k_enter (N := 110) Tryz.func10 rfl rfl rfl ?_
  refine walkB ?_
  refine k_box (cs := [.string nb, .string pats, .int .i64 mb, .int .i64 dl, dv]) rfl rfl rfl ?_
  intro b0
  refine walkB ?_
  refine k_nilrow 72 38 ?_
  refine k_loop (σ := Nat × Value × List ItX) (fun t => [(1, .slice ea its.length cap), (2, .int .i64 now), (3, .pointer (some ⟨b0, 0, none⟩)), (7, t.2.1), (8, .int .i64 t.1)]) (fun t => [row false t.2.1 t.2.2.length (t.2.2.flatMap ItX.cells) 72 38, bk false b0 [.string nb, .string pats, .int .i64 mb, .int .i64 dl, dv] 24])
    (fun t => t.1 ≤ its.length ∧ t.2.2.length ≤ t.1 ∧ (∀ x ∈ t.2.2, x ∈ its) ∧ SortedD (t.2.2.map (dueX dl)) ∧ (t.2.2.map (dueX dl)).Perm (foundL nb mb dl dists items now (its.take t.1))) (fun t => its.length - t.1) (0, .slice none 0 0, []) (by repeat (first | exact Sub.nil | refine Sub.cons rfl ?_)) (by exact (by repeat (first | exact SubO.nil | refine SubO.keep ?_ | refine SubO.drop rfl ?_))) ⟨Nat.zero_le _, Nat.le_refl _, by simp, .nil, by simp [foundL]⟩ ?_
  rintro ⟨k, lv, l⟩ ⟨hk, hlk, hlm, hSo, hPe⟩
  dsimp only at hk hlk hlm hSo hPe ⊢
  by_cases hlt : k < its.length
  · have hcs := flat_cells ItX.len (List.getElem?_eq_getElem hlt)
    have hxo := hok its[k] (List.getElem_mem hlt)
    have hxm : its[k] ∈ its := List.getElem_mem hlt
    have hsnoc := foundL_snoc (nb := nb) (mb := mb) (dl := dl) (dists := dists) (items := items) now (its.take k) its[k]
    rw [← List.take_succ_eq_append_getElem hlt] at hsnoc
    obtain ⟨g, o, rfl⟩ : ∃ g o, ea = some ⟨g, o, none⟩ := by
      have h0 : 0 < (its.flatMap ItX.cells).length := by rw [hI.2.2.1]; omega
      obtain ⟨ad, h1, hcl⟩ := hI.2.2.2 0 _ (List.getElem?_eq_getElem h0)
      have h2 := World.cell?_spot hcl
      obtain ⟨g, o, s⟩ := ad
      have h2 : s = none := by simpa [Addr.add] using h2
      subst h2
      exact ⟨g, o, h1⟩
    generalize its[k] = x at hcs hxo hsnoc hxm
    have hxl := ItX.len x
    have hxv : x.gv.oneCell' = true := by obtain ⟨_, _, hgv, _⟩ := hxo.1.1; rw [hgv]; rfl
    have hRe := fun (w : World) (hb : Below r.heap.size r w) => refReason_any (ic := idC x.id) (gv := x.gv) (d := x.d) (n := x.n) (c := x.c) (f := x.f) (a := x.a) (gs := x.gs) nb pats mb dl dv dists w hps hP (hd.ext hb) hdn (idC_len x.id) (hxo.1.1.ext hb) hxo.2 hxo.1.2.2.1
    have hDu := fun (w : World) => refDue_any (ic := idC x.id) (gv := x.gv) (d := x.d) (n := x.n) (c := x.c) (f := x.f) (a := x.a) nb pats mb dl dv w hdv (idC_len x.id) hxv hdl hxo.1.2.2.2.1 hxo.1.2.2.2.2
    by_cases hr : reasonP nb mb dists items x.gs x.d x.n x.c x.f = 0
    · by_cases hdu : dueP dl x.a ≤ now
      · rw [dueNow_some hr hdu] at hsnoc
        dsimp only at hsnoc
        refine k_rowsliceC 0 rfl ?_
        rintro ea2 c2 rfl hc2 -
        refine walkB ?_
        refine k_held 17 [0, 1, 2, 3, 4, 5, 6, 7, 8, 9, 10, 11, 12, 14, 13, 15, 16] (by kernel_rfl) (by kernel_rfl) ?_
        dsimp only [pickL, nth, List.drop]
        refine hwalkB ?_
        refine kh_op rfl rfl (fun w hw => ov_rowAgg (hI.ext (hw.below rfl)) rfl hxl hcs) ?_
        refine kh_callb (by kernel_rfl) rfl rfl (fun w hw => hRe w (hw.below rfl)) ?_
        refine hwalkB ?_
        refine kh_yes rfl rfl rfl rfl rfl (fun w hw => ov_rowAgg (hI.ext (hw.below rfl)) rfl hxl hcs) ?_
        refine hwalkB ?_
        refine kh_callb (by kernel_rfl) rfl rfl (fun w hw => hDu w) ?_
        refine hwalkB ?_
        have hbf := fun (y : ItX) (w : World) (hy : y ∈ its) => before_any nb pats mb dl dv x y w hdv hxv (by obtain ⟨⟨_, _, hgv, _⟩, _⟩ := (hok y hy).1; rw [hgv]; rfl) hdl hxo.1.2.2.2 (hok y hy).1.2.2.2
        refine walkB ?_
        apply k_join (σ := Nat) (fun q => [(1, .slice (some ⟨g, o, none⟩) its.length cap), (2, .int .i64 now), (3, .pointer (some ⟨b0, 0, none⟩)), (7, .slice ea2 l.length c2), (8, .int .i64 k), (9, .int .i64 q)]) (fun _ => [row false (.slice ea2 l.length c2) l.length (l.flatMap ItX.cells) 72 38, bk false b0 [.string nb, .string pats, .int .i64 mb, .int .i64 dl, dv] 24]) (fun q => q ≤ l.length ∧ SortedD ((l.take q ++ x :: l.drop q).map (dueX dl)))
        · intro key
          refine k_loop (σ := Nat) (fun q => [(1, .slice (some ⟨g, o, none⟩) its.length cap), (2, .int .i64 now), (3, .pointer (some ⟨b0, 0, none⟩)), (7, .slice ea2 l.length c2), (8, .int .i64 k), (9, .int .i64 q)]) (fun _ => [row false (.slice ea2 l.length c2) l.length (l.flatMap ItX.cells) 72 38, bk false b0 [.string nb, .string pats, .int .i64 mb, .int .i64 dl, dv] 24]) (fun q => q ≤ l.length ∧ ∀ y ∈ (l.map (dueX dl)).drop q, cmpD (dueX dl x) y < 0) (fun q => q) l.length (by repeat (first | exact Sub.nil | refine Sub.cons rfl ?_)) (by repeat (first | exact SubO.nil | refine SubO.keep ?_ | refine SubO.drop rfl ?_)) ⟨Nat.le_refl _, by rw [List.drop_of_length_le (by rw [List.length_map]; omega)]; intro y hy; cases hy⟩ ?_
          rintro q ⟨hq, hqd⟩
          have hins : (∀ h : q - 1 < (l.map (dueX dl)).length, q ≠ 0 → ¬ cmpD (dueX dl x) (l.map (dueX dl))[q - 1] < 0) → SortedD ((l.take q ++ x :: l.drop q).map (dueX dl)) := by
            intro h
            have := ins_sorted (d := dueX dl x) (k := q) (by simpa using hq) hSo hqd h
            rw [List.map_append, List.map_cons, List.map_take, List.map_drop]
            exact this
          by_cases hq0 : 0 < q
          · have hq1 : q - 1 < l.length := by omega
            have hcs2 := flat_cells ItX.len (List.getElem?_eq_getElem hq1)
            have hym := hlm l[q - 1] (List.getElem_mem hq1)
            have hdr : (l.map (dueX dl)).drop (q - 1) = dueX dl l[q - 1] :: (l.map (dueX dl)).drop q := by
              rw [List.drop_eq_getElem_cons (by simpa using hq1), List.getElem_map, show q - 1 + 1 = q by omega]
            have hgm : ∀ h : q - 1 < (l.map (dueX dl)).length, (l.map (dueX dl))[q - 1] = dueX dl l[q - 1] := fun h => by rw [List.getElem_map]
            generalize l[q - 1] = y at hcs2 hym hdr hgm
            have hyl := ItX.len y
            refine k_rowsome 0 (by omega) rfl ?_
            intro g2 c2' he _
            injection he with he1 he2 he3
            clear he2 he3
            have hby := fun w => hbf y w hym
            by_cases hlt2 : cmpD (dueX dl x) (dueX dl y) < 0
            · rw [decide_eq_true hlt2] at hby
              refine walkB ?_
              refine k_held 15 [0, 1, 2, 3, 4, 5, 6, 7, 8, 9, 10, 11, 12, 13, 14] (by kernel_rfl) (by kernel_rfl) ?_
              dsimp only [pickL, nth, List.drop]
              refine hwalkB ?_
              refine kh_yes rfl rfl rfl rfl rfl (fun w hw => ov_rowAgg (hI.ext (hw.below rfl)) rfl hxl hcs) ?_
              refine hwalkB ?_
              refine kh_yes rfl rfl rfl rfl rfl (fun _ _ => ov_indexAddrE he1 rfl rfl (q - 1) rfl hq1) ?_
              refine kh_yes rfl rfl rfl rfl rfl (fun w hw => ov_rowAgg (o := 0) (he1 ▸ rowIs_own (hw.row 0 rfl)) rfl hyl hcs2) ?_
              refine hwalkB ?_
              refine kh_callb (by kernel_rfl) rfl rfl (fun w hw => hby w) ?_
              refine hwalkB ?_
              refine walkB ?_
              have hqd' : ∀ z ∈ (l.map (dueX dl)).drop (q - 1), cmpD (dueX dl x) z < 0 := by
                rw [hdr]
                intro z hz
                rcases List.mem_cons.1 hz with rfl | hz
                · exact hlt2
                · exact hqd z hz
              exact k_round (q - 1) (by repeat (first | exact Sub.nil | refine Sub.cons rfl ?_)) (by repeat (first | exact SubO.nil | refine SubO.keep ?_ | refine SubO.drop rfl ?_)) ⟨by omega, hqd'⟩ (by omega)
            · rw [decide_eq_false hlt2] at hby
              refine walkB ?_
              refine k_held 15 [0, 1, 2, 3, 4, 5, 6, 7, 8, 9, 10, 11, 12, 13, 14] (by kernel_rfl) (by kernel_rfl) ?_
              dsimp only [pickL, nth, List.drop]
              refine hwalkB ?_
              refine kh_yes rfl rfl rfl rfl rfl (fun w hw => ov_rowAgg (hI.ext (hw.below rfl)) rfl hxl hcs) ?_
              refine hwalkB ?_
              refine kh_yes rfl rfl rfl rfl rfl (fun _ _ => ov_indexAddrE he1 rfl rfl (q - 1) rfl hq1) ?_
              refine kh_yes rfl rfl rfl rfl rfl (fun w hw => ov_rowAgg (o := 0) (he1 ▸ rowIs_own (hw.row 0 rfl)) rfl hyl hcs2) ?_
              refine hwalkB ?_
              refine kh_callb (by kernel_rfl) rfl rfl (fun w hw => hby w) ?_
              refine hwalkB ?_
              refine walkB ?_
              exact key _ _ q (by repeat (first | exact Sub.nil | refine Sub.cons rfl ?_)) (by repeat (first | exact SubO.nil | refine SubO.keep ?_ | refine SubO.drop rfl ?_)) ⟨hq, hins fun h _ => by rw [hgm h]; exact hlt2⟩
          · have hq00 : q = 0 := by omega
            subst hq00
            refine walkB ?_
            refine k_held 15 [0, 1, 2, 3, 4, 5, 6, 7, 8, 9, 10, 11, 12, 13, 14] (by kernel_rfl) (by kernel_rfl) ?_
            dsimp only [pickL, nth, List.drop]
            refine hwalkB ?_
            refine walkB ?_
            exact key _ _ 0 (by repeat (first | exact Sub.nil | refine Sub.cons rfl ?_)) (by repeat (first | exact SubO.nil | refine SubO.keep ?_ | refine SubO.drop rfl ?_)) ⟨hq, hins fun _ h => absurd rfl h⟩
        rintro q ⟨hq, hSo'⟩
        have hlen : (l.take q ++ x :: l.drop q).length = q + 1 + (l.length - q) := by simp; omega
        have hfl : (l.take q ++ x :: l.drop q).flatMap ItX.cells = ((l.take q).flatMap ItX.cells ++ x.cells) ++ (l.drop q).flatMap ItX.cells := by simp
        have hmem : ∀ y ∈ l.take q ++ x :: l.drop q, y ∈ its := by
          intro y hy
          rcases List.mem_append.1 hy with hy | hy
          · exact hlm y (List.mem_of_mem_take hy)
          · rcases List.mem_cons.1 hy with rfl | hy
            · exact hxm
            · exact hlm y (List.mem_of_mem_drop hy)
        have hPe' : ((l.take q ++ x :: l.drop q).map (dueX dl)).Perm (foundL nb mb dl dists items now (its.take (k + 1))) := by
          rw [hsnoc]
          exact ((ins_perm l x q).map (dueX dl)).trans (by rw [List.map_append, List.map_singleton]; exact hPe.append_right _)
        generalize l.take q ++ x :: l.drop q = l' at hlen hfl hmem hPe' hSo'
        have hgv : ∀ y ∈ its, y.gv.oneCell' = true := fun y hy => by obtain ⟨⟨_, _, hgv, _⟩, _⟩ := (hok y hy).1; rw [hgv]; rfl
        have hx1 := ItX.cells_one x hxv
        have hT1 : ((l.take q).flatMap ItX.cells).all (·.oneCell') = true := flat_one fun y hy => hgv y (hlm y (List.mem_of_mem_take hy))
        have hT2 : ((l.drop q).flatMap ItX.cells).all (·.oneCell') = true := flat_one fun y hy => hgv y (hlm y (List.mem_of_mem_drop hy))
        have hL1 : ((l.take q).flatMap ItX.cells).length = q * 38 := by rw [len_flat ItX.len, List.length_take, Nat.min_eq_left hq]
        have hL2 : ((l.drop q).flatMap ItX.cells).length = (l.length - q) * 38 := by rw [len_flat ItX.len, List.length_drop]
        refine k_lit0 rfl ?_
        intro lb0
        refine walkB ?_
        refine k_op rfl (fun _ _ => ov_sliceto' rfl rfl q rfl (by omega)) ?_
        refine k_appRowG (A := []) (m := q) (ys := (l.take q).flatMap ItX.cells) rfl rfl rfl (fun w hw => by rw [← take_flat]; exact (rowIs_own (hw.row 1 rfl)).take q hq) hL1 hT1 rfl rfl (by omega) (by unfold maxLen; omega) ?_
        intro v1
        rw [Nat.zero_add q, List.nil_append]
        refine walkB ?_
        refine k_op rfl (fun w hw => ov_rowAgg (hI.ext (hw.below rfl)) rfl hxl hcs) ?_
        refine k_app0 rfl rfl rfl (fun u => rfl) rfl rfl hxl (List.all_eq_true.2 hx1) rfl rfl rfl (by omega) (by unfold maxLen; omega) ?_
        intro v2 u2
        refine walkB ?_
        refine k_op rfl (fun _ _ => ov_slicefrom rfl rfl q rfl hq) ?_
        refine k_appRowG (A := []) (m := l.length - q) (ys := (l.drop q).flatMap ItX.cells) rfl rfl rfl (fun w hw => by rw [← drop_flat]; exact (rowIs_own (hw.row 1 rfl)).drop q hq) hL2 hT2 rfl rfl (by omega) (by unfold maxLen; omega) ?_
        intro v3
        refine walkB ?_
        exact k_round (k + 1, v3, l') (by repeat (first | exact Sub.nil | refine Sub.cons rfl ?_)) (by dsimp only; rw [hlen, hfl]; exact (by repeat (first | exact SubO.nil | refine SubO.keep ?_ | refine SubO.drop rfl ?_))) ⟨by dsimp only; omega, by dsimp only; omega, hmem, hSo', hPe'⟩ (by dsimp only; omega)
      · rw [dueNow_none (.inr hdu)] at hsnoc
        dsimp only at hsnoc
        rw [List.append_nil] at hsnoc
        refine walkB ?_
        refine k_held 17 [0, 1, 2, 3, 4, 5, 6, 7, 8, 9, 10, 11, 12, 14, 13, 15, 16] (by kernel_rfl) (by kernel_rfl) ?_
        dsimp only [pickL, nth, List.drop]
        refine hwalkB ?_
        refine kh_op rfl rfl (fun w hw => ov_rowAgg (hI.ext (hw.below rfl)) rfl hxl hcs) ?_
        refine kh_callb (by kernel_rfl) rfl rfl (fun w hw => hRe w (hw.below rfl)) ?_
        refine hwalkB ?_
        refine kh_yes rfl rfl rfl rfl rfl (fun w hw => ov_rowAgg (hI.ext (hw.below rfl)) rfl hxl hcs) ?_
        refine hwalkB ?_
        refine kh_callb (by kernel_rfl) rfl rfl (fun w hw => hDu w) ?_
        refine hwalkB ?_
        refine walkB ?_
        exact k_round (k + 1, lv, l) (by repeat (first | exact Sub.nil | refine Sub.cons rfl ?_)) (by repeat (first | exact SubO.nil | refine SubO.keep ?_ | refine SubO.drop rfl ?_)) ⟨by dsimp only; omega, by dsimp only; omega, hlm, hSo, by rw [hsnoc]; exact hPe⟩ (by dsimp only; omega)
    · rw [dueNow_none (.inl hr)] at hsnoc
      dsimp only at hsnoc
      rw [List.append_nil] at hsnoc
      refine walkB ?_
      refine k_held 17 [0, 1, 2, 3, 4, 5, 6, 7, 8, 9, 10, 11, 12, 14, 13, 15, 16] (by kernel_rfl) (by kernel_rfl) ?_
      dsimp only [pickL, nth, List.drop]
      refine hwalkB ?_
      refine kh_op rfl rfl (fun w hw => ov_rowAgg (hI.ext (hw.below rfl)) rfl hxl hcs) ?_
      refine kh_callb (by kernel_rfl) rfl rfl (fun w hw => hRe w (hw.below rfl)) ?_
      refine hwalkB ?_
      refine walkB ?_
      exact k_round (k + 1, lv, l) (by repeat (first | exact Sub.nil | refine Sub.cons rfl ?_)) (by repeat (first | exact SubO.nil | refine SubO.keep ?_ | refine SubO.drop rfl ?_)) ⟨by dsimp only; omega, by dsimp only; omega, hlm, hSo, by rw [hsnoc]; exact hPe⟩ (by dsimp only; omega)
  · have hkl : k = its.length := by omega
    subst hkl
    rw [List.take_length] at hPe
    have hsel : selL nb mb dl dists items now its = onceL (l.map (·.id)) := by
      unfold selL
      rw [sorted_uniq ((List.mergeSort_perm ..).trans hPe.symm) (sorted_merge cmpD_swo _) hSo, List.map_map]
      rfl
    rw [hsel]
    clear hsel hPe hSo
    refine k_rowsliceC 0 rfl ?_
    rintro ea2 c2 rfl hc2 -
    have hon : ∀ k, (onceL ((l.take k).map (·.id))).length ≤ 1000000 := fun k => by
      have := onceL_len ((l.take k).map (·.id))
      rw [List.length_map, List.length_take] at this
      omega
    refine walkB ?_
    refine k_nilrow 42 32 ?_
    refine k_loop (σ := Nat × Value) (fun t => [(7, .slice ea2 l.length c2), (11, t.2), (12, .int .i64 t.1)]) (fun t => [row false t.2 (onceL ((l.take t.1).map (·.id))).length ((onceL ((l.take t.1).map (·.id))).flatMap idC) 42 32, row false (.slice ea2 l.length c2) l.length (l.flatMap ItX.cells) 72 38]) (fun t => t.1 ≤ l.length) (fun t => l.length - t.1) (0, .slice none 0 0) (by repeat (first | exact Sub.nil | refine Sub.cons rfl ?_)) (by exact (by repeat (first | exact SubO.nil | refine SubO.keep ?_ | refine SubO.drop rfl ?_))) (Nat.zero_le _) ?_
    rintro ⟨i, ov⟩ hi
    dsimp only at hi ⊢
    by_cases hil : i < l.length
    · have hcs := flat_cells ItX.len (List.getElem?_eq_getElem hil)
      have hsnoc : onceL ((l.take (i + 1)).map (·.id)) = if ((onceL ((l.take i).map (·.id))).any fun z => decide (l[i].id = z)) = true then onceL ((l.take i).map (·.id)) else onceL ((l.take i).map (·.id)) ++ [l[i].id] := by
        rw [List.take_succ_eq_append_getElem hil, List.map_append]; exact onceL_snoc _ _
      have honk := hon i
      generalize l[i] = y at hcs hsnoc
      generalize onceL ((l.take i).map (·.id)) = out at hsnoc honk
      have hcp : ∀ j u, (u8C y.id.1)[j]? = some u → (l.flatMap ItX.cells)[i * 38 + j]? = some u := fun j u h => hcs j u (y.idAt h)
      have hyl : (u8C y.id.1).length = 32 := by rw [u8C_len, y.id.2]
      rw [show (fun z : Id32 => decide (y.id = z)) = fun z => decide (z = y.id) from funext fun z => decide_eq_decide.2 ⟨Eq.symm, Eq.symm⟩] at hsnoc
      refine k_rowsome 1 (by omega) rfl ?_
      intro g2 c2' he _
      injection he with he1 he2 he3
      subst he1 he3
      refine k_rowsliceC 0 rfl ?_
      rintro eo co rfl hco -
      refine walkB ?_
      refine k_loop (σ := Nat) (fun j => [(7, .slice (some ⟨g2, 0, none⟩) l.length c2), (11, .slice eo out.length co), (12, .int .i64 i), (13, .bool ((out.take j).any fun z => decide (z = y.id))), (14, .int .i64 j)]) (fun _ => [row false (.slice eo out.length co) out.length (out.flatMap idC) 42 32, row false (.slice (some ⟨g2, 0, none⟩) l.length c2) l.length (l.flatMap ItX.cells) 72 38]) (fun j => j ≤ out.length) (fun j => out.length - j) 0 (by repeat (first | exact Sub.nil | refine Sub.cons rfl ?_)) (by repeat (first | exact SubO.nil | refine SubO.keep ?_ | refine SubO.drop rfl ?_)) (Nat.zero_le _) ?_
      intro j hj
      by_cases hlt2 : j < out.length
      · have hcs2 := flat_cells idC_len (List.getElem?_eq_getElem hlt2)
        have hsn : ((out.take (j + 1)).any fun z => decide (z = y.id)) = ((out.take j).any (fun z => decide (z = y.id)) || decide (out[j] = y.id)) := by
          rw [List.take_succ_eq_append_getElem hlt2, List.any_append, List.any_cons, List.any_nil, Bool.or_false]
        generalize out[j] = z at hcs2 hsn
        refine k_rowsome 0 (by omega) rfl ?_
        intro g5 c5' he _
        injection he with he1 he2 he3
        subst he1 he3
        generalize (out.take j).any (fun z => decide (z = y.id)) = fd at hsn
        cases fd with
        | true =>
          rw [Bool.true_or] at hsn
          refine walkB ?_
          refine k_held 14 [0, 1, 2, 3, 4, 5, 6, 7, 8, 9, 10, 11, 12, 13] (by kernel_rfl) (by kernel_rfl) ?_
          dsimp only [pickL, nth, List.drop]
          refine hwalkB ?_
          refine walkB ?_
          refine k_round (j + 1) (by rw [hsn]; exact (by repeat (first | exact Sub.nil | refine Sub.cons rfl ?_))) (by repeat (first | exact SubO.nil | refine SubO.keep ?_ | refine SubO.drop rfl ?_)) (by omega) (by omega)
        | false =>
          rw [Bool.false_or] at hsn
          refine walkB ?_
          refine k_held 14 [0, 1, 2, 3, 4, 5, 6, 7, 8, 9, 10, 11, 12, 13] (by kernel_rfl) (by kernel_rfl) ?_
          dsimp only [pickL, nth, List.drop]
          refine hwalkB ?_
          refine kh_yes rfl rfl rfl rfl rfl (fun w hw => ov_rowAgg (o := 0) (rowIs_own (hw.row 0 rfl)) rfl (idC_len z) hcs2) ?_
          refine hwalkB ?_
          refine kh_yes rfl rfl rfl rfl rfl (fun w hw => ov_rowPart (o := 0) (rowIs_own (hw.row 1 rfl)) rfl hyl hcp) ?_
          refine kh_yes rfl rfl rfl rfl rfl (fun w hw => ov_bytesEq (a := z.1) (b := y.id.1) (by kernel_rfl) rfl rfl z.2 y.id.2) ?_
          rw [show decide (z.1 = y.id.1) = decide (z = y.id) from decide_eq_decide.2 ⟨Subtype.ext, congrArg _⟩]
          refine hwalkB ?_
          refine walkB ?_
          refine k_round (j + 1) (by rw [hsn]; exact (by repeat (first | exact Sub.nil | refine Sub.cons rfl ?_))) (by repeat (first | exact SubO.nil | refine SubO.keep ?_ | refine SubO.drop rfl ?_)) (by omega) (by omega)
      · have hjl : j = out.length := by omega
        subst hjl
        rw [List.take_length]
        cases hd2 : out.any fun z => decide (z = y.id) with
        | true =>
          rw [if_pos hd2] at hsnoc
          refine walkB ?_
          refine k_round (i + 1, .slice eo out.length co) (by repeat (first | exact Sub.nil | refine Sub.cons rfl ?_)) (by dsimp only; rw [hsnoc]; exact (by repeat (first | exact SubO.nil | refine SubO.keep ?_ | refine SubO.drop rfl ?_))) (by dsimp only; omega) (by dsimp only; omega)
        | false =>
          rw [if_neg (by rw [hd2]; simp)] at hsnoc
          refine walkB ?_
          refine k_op rfl (fun w hw => ov_rowPart (o := 0) (rowIs_own (hw.row 1 rfl)) rfl hyl hcp) ?_
          refine k_app0 rfl rfl rfl (fun u => rfl) rfl rfl (idC_len y.id) (idC_one y.id) rfl rfl rfl (by omega) (by unfold maxLen; omega) ?_
          intro v' u
          refine walkB ?_
          refine k_round (i + 1, v') (by repeat (first | exact Sub.nil | refine Sub.cons rfl ?_)) (by dsimp only; rw [hsnoc, List.length_append, List.flatMap_append, List.flatMap_singleton]; exact (by repeat (first | exact SubO.nil | refine SubO.keep ?_ | refine SubO.drop rfl ?_))) (by dsimp only; omega) (by dsimp only; omega)
    · have hil2 : i = l.length := by omega
      subst hil2
      rw [List.take_length]
      refine walkB ?_
      exact k_ret1 rfl rfl fun w hw => ⟨_, rfl, trivial, hw.sub (by repeat (first | exact SubO.nil | refine SubO.keep ?_ | refine SubO.drop rfl ?_))⟩
end Go.Proofs.YtddiecdoaggaaaaGreatDoor
namespace Go.Proofs.YtddiecdoaggaaaaGreatDoor
open Go.RowKit Go.Sort

theorem selL_noG {nb : ByteArray} {mb dl : Int} {dists : List ByteArray} {items : List (Nat × List Elem)} {now : Int} {as1 bs1 : List ItX} (h : as1.map noG = bs1.map noG) : selL nb mb dl dists items now as1 = selL nb mb dl dists items now bs1 := by
  unfold selL
  rw [← foundL_noG nb mb dl dists items now as1, h, foundL_noG]
set_option maxRecDepth 100000
attribute [local irreducible] K KS KLeft KRound J OV EV EU Blk wpList Code.wp bodyPost Exit.then Exit.inBlock Round Left Hid JS wpStill wpHeld Calls
attribute [local irreducible] reasonP dueP selL checkP
set_option maxHeartbeats 8000000 in
theorem feedSelects_any (nb pats : ByteArray) (mb dl : Int) (dv : Value) (dists : List ByteArray) (ea : Option Addr) (cap : Nat) (its : List ItX) (now : Int) (m : Int) (r : World) (hm : r.cell? ⟨0, 0, none⟩ = some (.int .i64 m))
    (hnb : nb.size ≤ maxLen) (hps : pats.size ≤ maxLen) (hd : StrsAt r dv dists) (hdn : dists.length ≤ maxLen) (hds : ∀ s ∈ dists, s.size ≤ maxLen) (hI : RowIs r ea its.length cap 38 (its.flatMap ItX.cells)) (hok : ∀ x ∈ its, x.Fit r) (hgs : ∀ x ∈ its, ∀ s ∈ x.gs, s.size ≤ 281474976710655) (hn : its.length ≤ 9223372036854775807) :
    Calls Tryz.prog 3 #[.agg #[.string nb, .string pats, .int .i64 mb, .int .i64 dl, dv], .slice ea its.length cap, .int .i64 now] r fun e w' => e = .returned (.bool true) ∧ Below r.heap.size r w' := by
  have hdv : dv.oneCell' = true := by obtain ⟨_, _, rfl, _⟩ := hd; rfl
  have hds' : ∀ s ∈ dists.take 10, s.size ≤ 9223372036854775807 := fun s hs => by have := hds s (List.mem_of_mem_take hs); unfold maxLen at this; omega
  have hd10 : (dists.take 10).length ≤ 2000000 := by rw [List.length_take]; omega
  refine k_enter (N := 73) Tryz.func3 rfl rfl rfl ?_
  refine walkB ?_
  refine k_box (cs := [.string nb, .string pats, .int .i64 mb, .int .i64 dl, dv]) rfl rfl rfl ?_
  intro rb
  refine walkB ?_
  refine k_callS (σ := Value × Value) (val := fun s => .tuple #[.agg #[.string (cut nb 40), .string (cut pats 300), .int .i64 mb, .int .i64 dl, s.1], .agg #[.string (cut nb 40), .string (cut pats 300), .int .i64 mb, .int .i64 dl, s.2]]) (ok := fun _ => True) (own := fun s => [row false s.1 (dists.take 10).length ((dists.take 10).map Value.string) 9 1, row false s.2 (dists.take 10).length ((dists.take 10).map Value.string) 9 1]) (fun _ => rfl) (by kernel_rfl) rfl rfl
    (fun w hw => (to_any nb pats mb dl dv dists w hnb hps (hd.ext (hw.below rfl)) hdn).mono fun e w' ⟨v1, v2, h1, h2⟩ => ⟨(v1, v2), h1, trivial, h2⟩) ?_
  rintro ⟨v1, v2⟩ -
  dsimp only [List.cons_append, List.nil_append]
  have hnb' := cut_size nb 40
  have hps' := cut_size pats 300
  generalize cut nb 40 = nb' at hnb'
  generalize cut pats 300 = pats' at hps'
  generalize dists.take 10 = l10 at hds' hd10
  refine k_rowslice 0 rfl ?_
  rintro ⟨e1, c1, rfl⟩
  refine k_rowslice 1 rfl ?_
  rintro ⟨e2, c2, rfl⟩
  refine walkB ?_
  refine k_alloc (cs := [.string ⟨#[]⟩, .string ⟨#[]⟩, .int .i64 0, .int .i64 0, .slice none 0 0]) rfl rfl ?_
  intro tb
  refine walkB ?_
  refine k_alloc (cs := [.string ⟨#[]⟩, .string ⟨#[]⟩, .int .i64 0, .int .i64 0, .slice none 0 0]) rfl rfl ?_
  intro ub
  refine k_stE1 [.string nb', .string pats', .int .i64 mb, .int .i64 dl, .slice e1 l10.length c1] rfl rfl rfl rfl rfl rfl (by rfl) ?_
  refine k_stE0 [.string nb', .string pats', .int .i64 mb, .int .i64 dl, .slice e2 l10.length c2] rfl rfl rfl rfl rfl rfl (by rfl) ?_
  refine walkB ?_
  have hms : maxLen = 9223372036854775807 := rfl
  refine k_call (by kernel_rfl) rfl rfl (fun w hw => feedCompile_any nb' pats' mb dl (.slice e1 l10.length c1) l10 m w (by omega) (by omega) (strs_of_row (hw.row 2 rfl)) hds' hd10 (cell_ext (hw.below rfl) hm)) ?_
  rintro w e w1 hw ⟨hx1, hno, hyes⟩
  have hS1 := hw.ext hx1
  have hB1 := hS1.below rfl
  have hm1 := cell_ext hB1 hm
  by_cases hck : checkP nb'.data.toList pats'.data.toList mb dl l10 = 0
  · obtain ⟨fb, items, hP, -, hF, rfl⟩ := hyes hck
    have hdl := check_dl hck
    refine ⟨_, rfl, ?_⟩
    have hU := hS1.blk 0 rfl
    have hD2 : StrsAt w1 (.slice e2 l10.length c2) l10 := strs_of_row (hS1.row 3 rfl)
    have hI1 := hI.ext hB1
    have hok1 : ∀ x ∈ its, x.Fit w1 := fun x hx => by
      obtain ⟨⟨xe, xc, h1, h2, h3⟩, h5⟩ := hok x hx
      exact ⟨⟨xe, xc, h1, h2.ext hB1, h3⟩, h5⟩
    refine j_of_k (Sat.refl w1) ?_
    refine walkB ?_
    refine k_callS (σ := Value × Value × List ItX × List ItX × List (Value × List ByteArray)) (val := fun s => .tuple #[s.1, s.2.1]) (ok := fun s => s.2.2.1.map noG = (its.take 20).map cutG ∧ s.2.2.2.1.map noG = (its.take 20).map cutG ∧ ∀ x, (x ∈ s.2.2.1 ∨ x ∈ s.2.2.2.1) → pairG x ∈ s.2.2.2.2) (own := fun s => [grpO s.2.2.2.2, row false s.1 s.2.2.1.length (s.2.2.1.flatMap ItX.cells) 55 38, row false s.2.1 s.2.2.2.1.length (s.2.2.2.1.flatMap ItX.cells) 72 38]) (fun _ => rfl) (by kernel_rfl) rfl rfl
      (fun w hw => items_any ea cap its w (hI1.ext (hw.below rfl)) (fun x hx => by
        obtain ⟨xe, xc, h1, h2, h3⟩ := (hok1 x hx).1
        exact ⟨xe, xc, h1, h2.ext (hw.below rfl), h3⟩) hn) ?_
    rintro ⟨av, bv, as1, bs1, L⟩ ⟨hA, hB, hL⟩
    dsimp only [List.cons_append, List.nil_append] at hA hB hL ⊢
    refine k_rowsliceC 1 rfl ?_
    rintro ea3 c3 rfl - -
    refine k_rowsliceC 2 rfl ?_
    rintro ea4 c4 rfl - -
    refine walkB ?_
    have hAl := len_cut hA
    have hBl := len_cut hB
    have hAB : selL nb' mb dl l10 items now as1 = selL nb' mb dl l10 items now bs1 := selL_noG (hA.trans hB.symm)
    have hbg : ∀ x ∈ bs1, ∀ s ∈ x.gs, s.size ≤ 281474976710655 := fun x hx s hs => by
      obtain ⟨y, hy, e1, _⟩ := of_cut hB hx
      exact hgs y hy s (List.mem_of_mem_take (e1 ▸ hs))
    refine k_held 10 [0, 1, 2, 4, 5, 6, 3, 7, 8, 9] (by kernel_rfl) (by kernel_rfl) ?_
    dsimp only [pickL, nth, List.drop]
    refine hwalkB ?_
    refine kh_run rfl (k_callS (σ := Value) (val := fun s => s) (ok := fun _ => True) (own := fun v => [row false v (selL nb' mb dl l10 items now as1).length ((selL nb' mb dl l10 items now as1).flatMap idC) 43 32]) (fun _ => rfl) (by kernel_rfl) rfl rfl
      (fun w hw => select_any (hF.ext (hw.below rfl)) hd10 hdl ea3 c3 as1 now (rowIs_own (hw.row 1 rfl)) (spot_own (hw.row 1 rfl)) (ok_of_cut hA hok1 ((hw.all (grpO L) (by simp)).1) fun x hx => hL x (.inl hx)) (by omega)) ?_)
    intro v1 _
    dsimp only [List.cons_append, List.nil_append]
    refine kh_back (by repeat (first | exact SubO.nil | refine SubO.keep ?_ | refine SubO.drop rfl ?_)) ?_
    refine kh_run rfl (k_callS (σ := Value) (val := fun s => s) (ok := fun _ => True) (own := fun v => [row false v (selL nb' mb dl l10 items now bs1).length ((selL nb' mb dl l10 items now bs1).flatMap idC) 42 32]) (fun _ => rfl) (by kernel_rfl) rfl rfl
      (fun w hw => refSelect_any nb' pats' mb dl (.slice e2 l10.length c2) l10 ea4 c4 bs1 now w (by omega) hP (hD2.ext (hw.below rfl)) hd10 hdl (rowIs_own (hw.row 3 rfl)) (fun x hx => ⟨ok_of_cut hB hok1 ((hw.all (grpO L) (by simp)).1) (fun x hx => hL x (.inr hx)) x hx, hbg x hx⟩) (by omega)) ?_)
    intro v2 _
    dsimp only [List.cons_append, List.nil_append]
    refine kh_back (by repeat (first | exact SubO.nil | refine SubO.keep ?_ | refine SubO.drop rfl ?_)) ?_
    refine hwalkB ?_
    rw [hAB]
    have hl1 : (selL nb' mb dl l10 items now bs1).length ≤ 20 := Nat.le_trans selL_len hBl
    generalize selL nb' mb dl l10 items now bs1 = S1 at hl1
    refine k_rowsliceC 1 rfl ?_
    rintro ea5 c5 rfl - -
    refine k_rowsliceC 0 rfl ?_
    rintro ea6 c6 rfl - -
    refine walkB ?_
    refine k_loop (σ := Nat) (fun k => [(13, .slice ea5 S1.length c5), (14, .slice ea6 S1.length c6), (15, .int .i64 k)]) (fun _ => [row false (.slice ea6 S1.length c6) S1.length (S1.flatMap idC) 42 32, row false (.slice ea5 S1.length c5) S1.length (S1.flatMap idC) 43 32]) (fun k => k ≤ S1.length) (fun k => S1.length - k) 0 (by repeat (first | exact Sub.nil | refine Sub.cons rfl ?_)) (by repeat (first | exact SubO.nil | refine SubO.keep ?_ | refine SubO.drop rfl ?_)) (Nat.zero_le _) ?_
    intro k hk
    by_cases hlt : k < S1.length
    · have hcs := flat_cells idC_len (List.getElem?_eq_getElem hlt)
      generalize S1[k] = x at hcs
      refine k_rowsome 1 (by omega) rfl ?_
      intro g5 c5' he _
      injection he with he1 he2 he3
      subst he1 he3
      refine k_rowsome 0 (by omega) rfl ?_
      intro g6 c6' he _
      injection he with he1 he2 he3
      subst he1 he3
      refine walkB ?_
      refine k_held 9 [0, 1, 2, 3, 4, 5, 6, 7, 8] (by kernel_rfl) (by kernel_rfl) ?_
      dsimp only [pickL, nth, List.drop]
      refine hwalkB ?_
      refine kh_op rfl rfl (fun w hw => ov_rowAgg (o := 0) (rowIs_own (hw.row 1 rfl)) rfl (idC_len x) hcs) ?_
      refine hwalkB ?_
      refine kh_op rfl rfl (fun w hw => ov_rowAgg (o := 0) (rowIs_own (hw.row 0 rfl)) rfl (idC_len x) hcs) ?_
      refine kh_op rfl rfl (fun w hw => ov_bytesNe (a := x.1) (b := x.1) (by kernel_rfl) rfl rfl x.2 x.2) ?_
      rw [show (!decide (x.1 = x.1)) = false by simp]
      refine hwalkB ?_
      refine walkB ?_
      refine k_round (k + 1) (by repeat (first | exact Sub.nil | refine Sub.cons rfl ?_)) (by repeat (first | exact SubO.nil | refine SubO.keep ?_ | refine SubO.drop rfl ?_)) (by omega) (by omega)
    · refine walkB ?_
      refine k_callb (v := .bool true) (by kernel_rfl) rfl rfl (fun w hw => known_any m w (cell_ext (hw.below rfl) hm1)) ?_
      refine walkB ?_
      exact k_ret1 rfl rfl fun w hw => ⟨rfl, hB1.trans ((hw.below rfl).mono hB1.size)⟩
  · rw [hno hck]
    refine ⟨_, rfl, ?_⟩
    have hz := hck
    generalize hzz : checkP nb'.data.toList pats'.data.toList mb dl l10 = z at hz
    refine j_of_k hS1 ?_
    refine walkB ?_
    refine k_callb (v := .bool true) (by kernel_rfl) rfl rfl (fun w hw => known_any m w (cell_ext (hw.below rfl) hm)) ?_
    refine walkB ?_
    refine k_callb (v := .int .i64 z) (by kernel_rfl) rfl rfl (fun w hw => (refCheck_any nb' pats' mb dl (.slice e2 l10.length c2) l10 w (by omega) (by omega) (strs_of_row (hw.row 3 rfl)) hds' hd10).mono fun e w' h => ⟨by rw [h.1, hzz], h.2⟩) ?_
    refine walkB ?_
    exact k_ret1 rfl rfl fun w hw => ⟨rfl, hw.below rfl⟩
end Go.Proofs.YtddiecdoaggaaaaGreatDoor
