/- The walk of Select. -/
import Derived.Test.YtddiecdoaggaaaaGreatDoorFeedD
import Derived.Test.YtddiecdoaggaaaaGreatDoorFeedI
import Derived.Test.YtddiecdoaggaaaaGreatDoorKits
import Derived.Test.YtddiecdoaggaaaaGreatDoorShelfG
namespace Go.Proofs.YtddiecdoaggaaaaGreatDoor
open Go.RowKit Go.Sort

/-! What is due. -/
abbrev DueX := Id32 × Int
def encD (x : DueX) : List Value := u8C x.1.1 ++ [.int .i64 x.2]
theorem encD_len (x : DueX) : (encD x).length = 33 := by simp [encD, u8C, x.1.2]
theorem encD_one (x : DueX) : ∀ v ∈ encD x, v.oneCell' = true := by
  intro v hv
  rcases List.mem_append.1 hv with h | h
  · exact List.all_eq_true.1 (u8C_one _) v h
  · rw [List.mem_singleton.1 h]; rfl
def cmpD (x y : DueX) : Int := if Lib.compareInt x.2 y.2 = 0 then Lib.compareBytes x.1.1 y.1.1 else Lib.compareInt x.2 y.2
theorem cmpD_lt {x y : DueX} : cmpD x y < 0 ↔ x.2 < y.2 ∨ x.2 = y.2 ∧ x.1.1 < y.1.1 := by
  unfold cmpD Lib.compareInt
  rw [← cb_lt]
  by_cases h1 : x.2 < y.2
  · rw [if_pos h1, if_neg (by omega)]; omega
  · rw [if_neg h1]
    by_cases h2 : x.2 > y.2
    · rw [if_pos h2, if_neg (by omega)]; omega
    · rw [if_neg h2, if_pos rfl]
      have : x.2 = y.2 := by omega
      simp [this]
theorem cmpD_tot (x y : DueX) (h1 : ¬ cmpD x y < 0) (h2 : ¬ cmpD y x < 0) : x = y := by
  rw [cmpD_lt] at h1 h2
  have e2 : x.2 = y.2 := by omega
  have e1 : x.1.1 = y.1.1 := List.le_antisymm (List.not_lt.1 fun h => h2 (.inr ⟨e2.symm, h⟩)) (List.not_lt.1 fun h => h1 (.inr ⟨e2, h⟩))
  exact Prod.ext (Subtype.ext e1) e2
theorem cmpD_swo : SWO (ltOf cmpD) := swo_total (fun x h => by rw [cmpD_lt] at h; rcases h with h | ⟨_, h⟩; · omega
                                                               · exact List.lt_irrefl _ h) (fun x y z h1 h2 => by
  rw [cmpD_lt] at *
  rcases h1 with h1 | ⟨e1, h1⟩
  · rcases h2 with h2 | ⟨e2, _⟩
    · exact .inl (by omega)
    · exact .inl (by omega)
  · rcases h2 with h2 | ⟨e2, h2⟩
    · exact .inl (by omega)
    · exact .inr ⟨by omega, List.lt_trans h1 h2⟩) cmpD_tot
/-- An item. -/
structure ItX where
  id : Id32
  gv : Value
  gs : List ByteArray
  d : ByteArray
  n : Int
  c : Bool
  f : ByteArray
  a : Int
def ItX.cells (x : ItX) : List Value := fitemC (idC x.id) x.gv x.d x.n x.c x.f x.a
theorem ItX.len (x : ItX) : x.cells.length = 38 := by simp [ItX.cells, fitemC, idC_len]
def ItX.Ok (w : World) (x : ItX) : Prop := StrsAt w x.gv x.gs ∧ (∀ s ∈ x.gs, s.size ≤ 9223372036854775807) ∧ x.gs.length ≤ 2000000 ∧ -9223372036854775808 ≤ x.a ∧ x.a ≤ 9223372036854775807
theorem ItX.Ok.ext {w w' : World} {x : ItX} (h : x.Ok w) (hb : Below w.heap.size w w') : x.Ok w' := ⟨h.1.ext hb, h.2⟩
section
variable (nb : ByteArray) (mb dl : Int) (dists : List ByteArray) (items : List (Nat × List Elem))
def itReason (x : ItX) : Int := reasonP nb mb dists items x.gs x.d x.n x.c x.f
/-- An item that passes and is due. -/
def dueNow (now : Int) (x : ItX) : Option DueX := if itReason nb mb dists items x = 0 then (if dueP dl x.a ≤ now then some (x.id, dueP dl x.a) else none) else none
def foundL (now : Int) (its : List ItX) : List DueX := its.filterMap (dueNow nb mb dl dists items now)
end
/-- Each identity once. -/
def onceL (l : List Id32) : List Id32 := l.foldl (fun o x => if (o.any fun y => decide (x = y)) = true then o else o ++ [x]) []
theorem onceL_snoc (l : List Id32) (x : Id32) : onceL (l ++ [x]) = if ((onceL l).any fun y => decide (x = y)) = true then onceL l else onceL l ++ [x] := by unfold onceL; rw [List.foldl_append]; rfl
theorem onceL_mem (l : List Id32) : ∀ x, x ∈ onceL l ↔ x ∈ l := by
  have key : ∀ n, ∀ l : List Id32, l.length = n → ∀ x, x ∈ onceL l ↔ x ∈ l := by
    intro n
    induction n with
    | zero => intro l h x; have := List.eq_nil_of_length_eq_zero h; subst this; exact Iff.rfl
    | succ n ih =>
      intro l h x
      have hne : l ≠ [] := fun e => by subst e; simp at h
      obtain ⟨m, s, rfl⟩ : ∃ m s, l = m ++ [s] := ⟨l.dropLast, l.getLast hne, (List.dropLast_concat_getLast hne).symm⟩
      have hm := ih m (by simpa using h)
      rw [onceL_snoc]
      split
      · rename_i h1
        obtain ⟨y, hy, h2⟩ := List.any_eq_true.1 h1
        have e := of_decide_eq_true h2
        rw [hm x, List.mem_append, List.mem_singleton]
        refine ⟨.inl, ?_⟩
        rintro (h | rfl)
        · exact h
        · rw [e]; exact (hm y).1 hy
      · rw [List.mem_append, List.mem_append, hm x]
  exact key _ l rfl
theorem onceL_len (l : List Id32) : (onceL l).length ≤ l.length := by
  have key : ∀ n, ∀ l : List Id32, l.length = n → (onceL l).length ≤ n := by
    intro n
    induction n with
    | zero => intro l h; have := List.eq_nil_of_length_eq_zero h; subst this; exact Nat.le_refl _
    | succ n ih =>
      intro l h
      have hne : l ≠ [] := fun e => by subst e; simp at h
      obtain ⟨m, s, rfl⟩ : ∃ m s, l = m ++ [s] := ⟨l.dropLast, l.getLast hne, (List.dropLast_concat_getLast hne).symm⟩
      have hm := ih m (by simpa using h)
      rw [onceL_snoc]
      split
      · omega
      · simp; omega
  exact key _ l rfl
def selL (nb : ByteArray) (mb dl : Int) (dists : List ByteArray) (items : List (Nat × List Elem)) (now : Int) (its : List ItX) : List Id32 := onceL (((foundL nb mb dl dists items now its).mergeSort fun x y => !(ltOf cmpD) y x).map (·.1))
theorem built_due (x : DueX) : Tryz.prog.built 77 [(0, .agg (u8C x.1.1).toArray), (1, .int .i64 x.2)] = some (encD x).toArray := by
  obtain ⟨⟨l, hl⟩, m⟩ := x
  obtain ⟨i0, i1, i2, i3, i4, i5, i6, i7, i8, i9, i10, i11, i12, i13, i14, i15, i16, i17, i18, i19, i20, i21, i22, i23, i24, i25, i26, i27, i28, i29, i30, i31, rfl⟩ := list32 hl
  kernel_rfl
set_option maxRecDepth 100000
attribute [local irreducible] K KS KLeft KRound J OV EV EU Blk wpList Code.wp bodyPost Exit.then Exit.inBlock Round Left Hid JS wpStill wpHeld Calls
theorem sel1_any (x y : DueX) (r : World) : Calls Tryz.prog 25 #[.agg (encD x).toArray, .agg (encD y).toArray] r fun e w' => e = .returned (.int .i64 (cmpD x y)) ∧ Below r.heap.size r w' := by
  obtain ⟨⟨lx, hx⟩, mx⟩ := x
  obtain ⟨⟨ly, hy⟩, my⟩ := y
  have hlx : (u8C lx).length = 32 := by rw [u8C_len, hx]
  have hly : (u8C ly).length = 32 := by rw [u8C_len, hy]
  unfold cmpD encD
  dsimp only
  refine k_enter (N := 17) Tryz.func25 rfl rfl rfl ?_
  refine walkB ?_
  refine k_box (cs := u8C lx ++ [.int .i64 mx]) rfl rfl rfl ?_
  intro b0
  refine k_box (cs := u8C ly ++ [.int .i64 my]) rfl rfl rfl ?_
  intro b1
  refine walkB ?_
  refine k_held 13 [0, 1, 2, 3, 5, 6, 7, 8, 4, 9, 10, 11, 12] (by kernel_rfl) (by kernel_rfl) ?_
  dsimp only [pickL, nth, List.drop]
  refine hwalkB ?_
  refine kh_op rfl rfl (fun _ _ => ov_arrall rfl) ?_
  refine hwalkB ?_
  refine kh_op rfl rfl (fun _ _ => ov_arrall rfl) ?_
  refine hwalkB ?_
  refine kh_callb (by kernel_rfl) rfl rfl (fun w hw => cmpI_any mx my w) ?_
  refine kh_callb (by kernel_rfl) rfl rfl (fun w hw => bcmp_any lx ly _ _ 32 32 32 32 w hx.symm hy.symm (fun j u h => (hw.blk 1 rfl).cells j u (by rw [List.getElem?_append_left (List.getElem?_eq_some_iff.1 h).1]; exact h)) (fun j u h => (hw.blk 0 rfl).cells j u (by rw [List.getElem?_append_left (List.getElem?_eq_some_iff.1 h).1]; exact h))) ?_
  refine kh_run rfl (k_lit (vs := [.int .i64 (Lib.compareInt mx my), .int .i64 (Lib.compareBytes lx ly)]) rfl rfl rfl rfl rfl rfl rfl ?_)
  intro b2
  refine kh_back (by repeat (first | exact SubO.nil | refine SubO.keep ?_ | refine SubO.drop rfl ?_)) ?_
  refine kh_run rfl (k_callb (by kernel_rfl) rfl rfl (fun w hw => or2_any b2 _ _ _ w (hw.blk 0 rfl)) ?_)
  refine kh_back (by repeat (first | exact SubO.nil | refine SubO.keep ?_ | refine SubO.drop rfl ?_)) ?_
  refine hwalkB ?_
  refine walkB ?_
  exact k_ret1 rfl rfl fun w hw => ⟨rfl, hw.below rfl⟩
section
variable {r : World} {fb : Nat} {nb pats : ByteArray} {mb dl : Int} {dists : List ByteArray} {items : List (Nat × List Elem)}
theorem foundL_snoc (now : Int) (its : List ItX) (x : ItX) : foundL nb mb dl dists items now (its ++ [x]) = foundL nb mb dl dists items now its ++ (match dueNow nb mb dl dists items now x with | some y => [y] | none => []) := by
  unfold foundL
  rw [List.filterMap_append]
  congr 1
  cases h : dueNow nb mb dl dists items now x <;> simp [h]
theorem foundL_len (now : Int) (its : List ItX) : (foundL nb mb dl dists items now its).length ≤ its.length := List.length_filterMap_le _ _
set_option maxHeartbeats 2000000 in
theorem select_any (hF : FeedAt r fb nb pats mb dl dists items) (hdn : dists.length ≤ 2000000) (hdl : 0 ≤ dl ∧ dl ≤ 20160) (ea : Option Addr) (cap : Nat) (its : List ItX) (now : Int) (hI : RowIs r ea its.length cap 38 (its.flatMap ItX.cells)) (hea : ∀ a, ea = some a → a.spot = none) (hok : ∀ x ∈ its, x.Ok r) (hn : its.length ≤ 1000000) :
    Calls Tryz.prog 9 #[.pointer (some ⟨fb, 0, none⟩), .slice ea its.length cap, .int .i64 now] r fun e w' => ∃ v, e = .returned v ∧ True ∧ Sat r [row false v (selL nb mb dl dists items now its).length ((selL nb mb dl dists items now its).flatMap idC) 43 32] w' := by
  refine k_enter (N := 61) Tryz.func9 rfl rfl rfl ?_
  have hlenF : ∀ k, (foundL nb mb dl dists items now (its.take k)).length ≤ 1000000 := fun k => by have := foundL_len (nb := nb) (mb := mb) (dl := dl) (dists := dists) (items := items) now (its.take k); rw [List.length_take] at this; omega
  refine walkB ?_
  refine k_nilrow 77 33 ?_
  apply k_join (σ := Value) (fun v => [(7, v), (41, v)]) (fun v => [row false v (foundL nb mb dl dists items now its).length ((foundL nb mb dl dists items now its).flatMap encD) 77 33]) (fun _ => True)
  · intro key
    refine k_loop (σ := Nat × Value) (fun t => [(0, .pointer (some ⟨fb, 0, none⟩)), (2, .int .i64 now), (7, t.2), (15, .slice ea its.length cap), (16, .int .i64 its.length), (17, .int .i64 t.1)]) (fun t => [row false t.2 (foundL nb mb dl dists items now (its.take t.1)).length ((foundL nb mb dl dists items now (its.take t.1)).flatMap encD) 77 33]) (fun t => t.1 ≤ its.length) (fun t => its.length - t.1) (0, .slice none 0 0) (by repeat (first | exact Sub.nil | refine Sub.cons rfl ?_)) (by exact (by repeat (first | exact SubO.nil | refine SubO.keep ?_ | refine SubO.drop rfl ?_))) (Nat.zero_le _) ?_
    rintro ⟨k, fv⟩ hk
    dsimp only at hk ⊢
    by_cases hlt : k < its.length
    · have hcs := flat_cells ItX.len (List.getElem?_eq_getElem hlt)
      have hxo := hok its[k] (List.getElem_mem hlt)
      have hsnoc := foundL_snoc (nb := nb) (mb := mb) (dl := dl) (dists := dists) (items := items) now (its.take k) its[k]
      rw [← List.take_succ_eq_append_getElem hlt] at hsnoc
      obtain ⟨g, o, rfl⟩ : ∃ g o, ea = some ⟨g, o, none⟩ := by
        have h0 : 0 < its[k].cells.length := by rw [ItX.len]; omega
        obtain ⟨ad, h1, _⟩ := hI.2.2.2 _ _ (hcs 0 its[k].cells[0] (List.getElem?_eq_getElem h0))
        have h2 := hea ad h1
        obtain ⟨g, o, s⟩ := ad
        dsimp only at h2
        subst h2
        exact ⟨g, o, h1⟩
      generalize its[k] = x at hcs hxo hsnoc
      have hxl := ItX.len x
      have hx1 : x.cells.all (·.oneCell') = true := by
        obtain ⟨_, _, hgv, _⟩ := hxo.1
        unfold ItX.cells fitemC
        rw [List.all_append, idC_one, hgv]; rfl
      have hpart : (x.cells.drop 0).take 32 = u8C x.id.1 := by
        unfold ItX.cells fitemC
        rw [List.drop_zero, List.take_append_of_le_length (by rw [idC_len]; omega), List.take_of_length_le (by rw [idC_len]; omega)]; rfl
      refine walkB ?_
      refine k_op rfl (fun w hw => ov_rowAgg (hI.ext (hw.below rfl)) rfl hxl hcs) ?_
      refine k_alloc rfl rfl ?_
      intro xb
      refine k_cpA0 rfl rfl rfl hx1 rfl hxl ?_
      refine walkB ?_
      refine k_callb (by kernel_rfl) rfl rfl (fun w hw => due_any (hF.ext (hw.below rfl)) (idC_len x.id) (hxo.1.ext (hw.below rfl)) hxo.2.1 hxo.2.2.1 hdn hdl hxo.2.2.2.1 hxo.2.2.2.2) ?_
      have hdue : dueNow nb mb dl dists items now x = if reasonP nb mb dists items x.gs x.d x.n x.c x.f = 0 then (if dueP dl x.a ≤ now then some (x.id, dueP dl x.a) else none) else none := rfl
      by_cases hr : reasonP nb mb dists items x.gs x.d x.n x.c x.f = 0
      · rw [if_pos hr] at hdue
        rw [if_pos hr, decide_eq_true hr]
        generalize dueP dl x.a = m at hdue
        by_cases hm : m ≤ now
        · rw [if_pos hm] at hdue
          rw [hdue] at hsnoc
          dsimp only at hsnoc
          refine walkB ?_
          refine k_op rfl (fun _ hw => ov_partE (n := 32) 0 hw rfl rfl (by rw [hxl]; omega) hpart) ?_
          refine walkB ?_
          refine k_op rfl (fun _ _ => ov_build (vs := [.agg (u8C x.id.1).toArray, .int .i64 m]) (cells := (encD (x.id, m)).toArray) rfl (built_due (x.id, m))) ?_
          have hlk := hlenF k
          refine k_app1 rfl rfl rfl (fun u => rfl) rfl rfl (encD_len _) (List.all_eq_true.2 (encD_one _)) rfl rfl rfl (by omega) (by unfold maxLen; omega) ?_
          intro v' u
          refine walkB ?_
          refine k_round (k + 1, v') (by repeat (first | exact Sub.nil | refine Sub.cons rfl ?_)) (by dsimp only; rw [hsnoc, List.length_append, List.flatMap_append, List.flatMap_singleton]; exact (by repeat (first | exact SubO.nil | refine SubO.keep ?_ | refine SubO.drop rfl ?_))) (by dsimp only; omega) (by dsimp only; omega)
        · rw [if_neg hm] at hdue
          rw [hdue, List.append_nil] at hsnoc
          refine walkB ?_
          refine k_round (k + 1, fv) (by repeat (first | exact Sub.nil | refine Sub.cons rfl ?_)) (by dsimp only; rw [hsnoc]; exact (by repeat (first | exact SubO.nil | refine SubO.keep ?_ | refine SubO.drop rfl ?_))) (by dsimp only; omega) (by dsimp only; omega)
      · rw [if_neg hr] at hdue
        rw [hdue, List.append_nil] at hsnoc
        rw [if_neg hr, decide_eq_false hr]
        refine walkB ?_
        refine k_round (k + 1, fv) (by repeat (first | exact Sub.nil | refine Sub.cons rfl ?_)) (by dsimp only; rw [hsnoc]; exact (by repeat (first | exact SubO.nil | refine SubO.keep ?_ | refine SubO.drop rfl ?_))) (by dsimp only; omega) (by dsimp only; omega)
    · have hkl : k = its.length := by omega
      subst hkl
      rw [List.take_length]
      refine walkB ?_
      exact key _ _ fv (by repeat (first | exact Sub.nil | refine Sub.cons rfl ?_)) (by repeat (first | exact SubO.nil | refine SubO.keep ?_ | refine SubO.drop rfl ?_)) trivial
  rintro fv -
  have hlF := hlenF its.length
  rw [List.take_length] at hlF
  unfold selL
  generalize foundL nb mb dl dists items now its = D at hlF
  refine k_call (by kernel_rfl) rfl rfl (fun w hw => sort_rowK Tryz.sortD 33 (by omega) (inferInstance : TAgg Tryz.prog 77 true).run (inferInstance : TSize Tryz.prog 77 33).run encD encD_len encD_one cmpD cmpD_swo (total_of cmpD_tot) 25 #[] (enters_of Tryz.func25 (by kernel_rfl) rfl) (A := []) (C := []) hw rfl (by omega) (fun W _ x y => sel1_any x y W)) ?_
  have hDl : (D.mergeSort fun x y => !(ltOf cmpD) y x).length = D.length := List.length_mergeSort _
  rintro w e w' hw ⟨rfl, hw'⟩
  refine ⟨_, rfl, j_of_k hw' ?_⟩
  rw [← hDl] at hlF ⊢
  generalize (D.mergeSort fun x y => !(ltOf cmpD) y x) = E at hlF
  show K 61 _ r [row false fv E.length (E.flatMap encD) 77 33] _
  have hon : ∀ k, (onceL ((E.take k).map (·.1))).length ≤ 1000000 := fun k => by
    have := onceL_len ((E.take k).map (·.1))
    rw [List.length_map, List.length_take] at this
    omega
  refine k_rowsliceC 0 rfl ?_
  rintro ea2 cap2 rfl hcap2 -
  refine walkB ?_
  refine k_nilrow 43 32 ?_
  refine k_loop (σ := Nat × Value) (fun t => [(12, t.2), (43, .slice ea2 E.length cap2), (44, .int .i64 E.length), (45, .int .i64 t.1)]) (fun t => [row false t.2 (onceL ((E.take t.1).map (·.1))).length ((onceL ((E.take t.1).map (·.1))).flatMap idC) 43 32, row false (.slice ea2 E.length cap2) E.length (E.flatMap encD) 77 33]) (fun t => t.1 ≤ E.length) (fun t => E.length - t.1) (0, .slice none 0 0) (by repeat (first | exact Sub.nil | refine Sub.cons rfl ?_)) (by exact (by repeat (first | exact SubO.nil | refine SubO.keep ?_ | refine SubO.drop rfl ?_))) (Nat.zero_le _) ?_
  rintro ⟨k, ov⟩ hk
  dsimp only at hk ⊢
  by_cases hlt : k < E.length
  · have hcs := flat_cells encD_len (List.getElem?_eq_getElem hlt)
    have hsnoc : onceL ((E.take (k + 1)).map (·.1)) = if ((onceL ((E.take k).map (·.1))).any fun y => decide (E[k].1 = y)) = true then onceL ((E.take k).map (·.1)) else onceL ((E.take k).map (·.1)) ++ [E[k].1] := by
      rw [List.take_succ_eq_append_getElem hlt, List.map_append]; exact onceL_snoc _ _
    have honk := hon k
    refine k_rowsome 1 (by omega) rfl ?_
    intro g2 cap3 he2 _
    injection he2 with e1 e2 e3
    subst e1 e3
    generalize E[k] = y at hcs hsnoc
    have hyp : ((encD y).drop 0).take 32 = u8C y.1.1 := by
      unfold encD
      rw [List.drop_zero, List.take_append_of_le_length (by rw [u8C_len, y.1.2]; omega), List.take_of_length_le (by rw [u8C_len, y.1.2]; omega)]
    refine walkB ?_
    refine k_op rfl (fun w hw => ov_rowAgg (rowIs_own (hw.row 1 rfl)) (by rw [Nat.zero_add]; rfl) (encD_len y) hcs) ?_
    refine k_alloc rfl rfl ?_
    intro yb
    refine k_cpA0 rfl rfl rfl (List.all_eq_true.2 (encD_one y)) rfl (encD_len y) ?_
    refine walkB ?_
    refine k_op rfl (fun _ hw => ov_partE (n := 32) 0 hw rfl rfl (by rw [encD_len]; omega) hyp) ?_
    refine k_callb (by kernel_rfl) rfl rfl (fun w hw => contId_any ov (onceL ((E.take k).map fun p : DueX => p.1)) y.1 w (hw.row 1 rfl) (by omega)) ?_
    cases hc : (onceL ((E.take k).map (·.1))).any fun z => decide (y.1 = z) with
    | true =>
      rw [if_pos hc] at hsnoc
      refine walkB ?_
      refine k_round (k + 1, ov) (by repeat (first | exact Sub.nil | refine Sub.cons rfl ?_)) (by dsimp only; rw [hsnoc]; exact (by repeat (first | exact SubO.nil | refine SubO.keep ?_ | refine SubO.drop rfl ?_))) (by dsimp only; omega) (by dsimp only; omega)
    | false =>
      rw [if_neg (by rw [hc]; simp)] at hsnoc
      refine walkB ?_
      refine k_op rfl (fun _ hw => ov_partE (n := 32) 0 hw rfl rfl (by rw [encD_len]; omega) hyp) ?_
      refine k_app1 rfl rfl rfl (fun u => rfl) rfl rfl (idC_len y.1) (idC_one y.1) rfl rfl rfl (by omega) (by unfold maxLen; omega) ?_
      intro v' u
      refine walkB ?_
      refine k_round (k + 1, v') (by repeat (first | exact Sub.nil | refine Sub.cons rfl ?_)) (by dsimp only; rw [hsnoc, List.length_append, List.flatMap_append, List.flatMap_singleton]; exact (by repeat (first | exact SubO.nil | refine SubO.keep ?_ | refine SubO.drop rfl ?_))) (by dsimp only; omega) (by dsimp only; omega)
  · have hkl : k = E.length := by omega
    subst hkl
    rw [List.take_length]
    refine walkB ?_
    exact k_ret1 rfl rfl fun w hw => ⟨_, rfl, trivial, hw.sub (by repeat (first | exact SubO.nil | refine SubO.keep ?_ | refine SubO.drop rfl ?_))⟩
end
end Go.Proofs.YtddiecdoaggaaaaGreatDoor
