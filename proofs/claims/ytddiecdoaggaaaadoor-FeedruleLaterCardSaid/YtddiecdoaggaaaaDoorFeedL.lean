/- The walk of FeedruleControls. -/
import Derived.Test.YtddiecdoaggaaaaDoorFeedI
namespace Go.Proofs.YtddiecdoaggaaaaDoor
open Go.RowKit

theorem cut_size (s : ByteArray) (n : Nat) : (cut s n).size ≤ n := by unfold cut; rw [ByteArray.size_extract]; omega
theorem check_dl {nb pats : List UInt8} {mb dl : Int} {dists : List ByteArray} (h : checkP nb pats mb dl dists = 0) : 0 ≤ dl ∧ dl ≤ 20160 := by
  unfold checkP at h
  split at h
  · omega
  · split at h
    · rename_i c hc
      exact absurd h (parseP_err hc)
    · split at h
      · omega
      · omega
theorem reason_ctl {nb : ByteArray} {mb : Int} {dists : List ByteArray} {items : List (Nat × List Elem)} {gs : List ByteArray} {d : ByteArray} {n : Int} {f : ByteArray} : reasonP nb mb dists items gs d n true f = if f = nb then 1 else 0 := by
  unfold reasonP c1P c2P c3P c4P
  by_cases h : f = nb
  · rw [if_pos h, decide_eq_true h]; rfl
  · rw [if_neg h, decide_eq_false h]; rfl
theorem reason_own {nb : ByteArray} {mb : Int} {dists : List ByteArray} {items : List (Nat × List Elem)} {gs : List ByteArray} {d : ByteArray} {n : Int} {c : Bool} : reasonP nb mb dists items gs d n c nb = 1 := by
  unfold reasonP c1P
  rw [decide_eq_true rfl]; rfl
theorem ov_bneq_f {P : Program} {env : Env} {w : World} {x y : Operand} {t t' : TypeId} {p q : Bool} (ht : P.underlying t = some .bool) (hx : evx env x = some (.bool p)) (hy : evx env y = some (.bool q)) (h : p = q) : OV P env (.binOp .neq t x y t') w (.bool false) := by
  subst h
  intro ρ hρ o ho; unfold execOp; rw [ho]; simp [hρ hx, hρ hy, go_sem, binOp, run_equal_bool _ _ _ _ ht]
set_option maxRecDepth 100000
attribute [local irreducible] K KS KLeft KRound J OV EV EU Blk wpList Code.wp bodyPost Exit.then Exit.inBlock Round Left Hid JS wpStill wpHeld Calls
set_option maxHeartbeats 8000000 in
theorem controls_any (nb pats : ByteArray) (mb dl : Int) (dv : Value) (dists : List ByteArray) (bs : List UInt8) (ea : Option Addr) (cap : Nat) (gs : List ByteArray) (d : ByteArray) (n : Int) (c : Bool) (f : ByteArray) (a : Int) (m : Int) (r : World) (hm : r.cell? ⟨0, 0, none⟩ = some (.int .i64 m))
    (hnb : nb.size ≤ maxLen) (hps : pats.size ≤ maxLen) (hd : StrsAt r dv dists) (hdn : dists.length ≤ maxLen) (hds : ∀ s ∈ dists, s.size ≤ maxLen) (hi : bs.length = 32) (hg : StrsAt r (.slice ea gs.length cap) gs) (hgn : gs.length ≤ maxLen) (hgs : ∀ s ∈ gs, s.size ≤ 9223372036854775807) (hn : ea = none → cap = 0) (ha : -9223372036854775808 ≤ a) (ha' : a ≤ 9223372036854775807) :
    Calls Tryd.prog 4 #[.agg #[.string nb, .string pats, .int .i64 mb, .int .i64 dl, dv], .agg (fitemC (bs.map fun c => Value.int .u8 c.toNat) (.slice ea gs.length cap) d n c f a).toArray] r fun e w' => e = .returned (.bool true) ∧ Below r.heap.size r w' := by
  have hdv : dv.oneCell' = true := by obtain ⟨_, _, rfl, _⟩ := hd; rfl
  have hds' : ∀ s ∈ dists.take 10, s.size ≤ 9223372036854775807 := fun s hs => by have := hds s (List.mem_of_mem_take hs); unfold maxLen at this; omega
  have hgs' : ∀ s ∈ gs.take 20, s.size ≤ 9223372036854775807 := fun s hs => hgs s (List.mem_of_mem_take hs)
  have hd10 : (dists.take 10).length ≤ 2000000 := by rw [List.length_take]; omega
  have hg20 : (gs.take 20).length ≤ 2000000 := by rw [List.length_take]; omega
  obtain ⟨i0, i1, i2, i3, i4, i5, i6, i7, i8, i9, i10, i11, i12, i13, i14, i15, i16, i17, i18, i19, i20, i21, i22, i23, i24, i25, i26, i27, i28, i29, i30, i31, rfl⟩ := list32 hi
  refine k_enter (N := 67) Tryd.func4 rfl rfl rfl ?_
  refine walk ?_
  refine k_box (cs := [.string nb, .string pats, .int .i64 mb, .int .i64 dl, dv]) rfl rfl rfl ?_
  intro rb
  refine walk ?_
  refine k_box (cs := fitemC [.int .u8 (UInt8.toNat i0), .int .u8 (UInt8.toNat i1), .int .u8 (UInt8.toNat i2), .int .u8 (UInt8.toNat i3), .int .u8 (UInt8.toNat i4), .int .u8 (UInt8.toNat i5), .int .u8 (UInt8.toNat i6), .int .u8 (UInt8.toNat i7), .int .u8 (UInt8.toNat i8), .int .u8 (UInt8.toNat i9), .int .u8 (UInt8.toNat i10), .int .u8 (UInt8.toNat i11), .int .u8 (UInt8.toNat i12), .int .u8 (UInt8.toNat i13), .int .u8 (UInt8.toNat i14), .int .u8 (UInt8.toNat i15), .int .u8 (UInt8.toNat i16), .int .u8 (UInt8.toNat i17), .int .u8 (UInt8.toNat i18), .int .u8 (UInt8.toNat i19), .int .u8 (UInt8.toNat i20), .int .u8 (UInt8.toNat i21), .int .u8 (UInt8.toNat i22), .int .u8 (UInt8.toNat i23), .int .u8 (UInt8.toNat i24), .int .u8 (UInt8.toNat i25), .int .u8 (UInt8.toNat i26), .int .u8 (UInt8.toNat i27), .int .u8 (UInt8.toNat i28), .int .u8 (UInt8.toNat i29), .int .u8 (UInt8.toNat i30), .int .u8 (UInt8.toNat i31)] (.slice ea gs.length cap) d n c f a) rfl rfl rfl ?_
  intro ib
  refine walk ?_
  refine k_callS (σ := Value × Value) (val := fun s => .tuple #[.agg #[.string (cut nb 40), .string (cut pats 300), .int .i64 mb, .int .i64 dl, s.1], .agg #[.string (cut nb 40), .string (cut pats 300), .int .i64 mb, .int .i64 dl, s.2]]) (ok := fun _ => True) (own := fun s => [row false s.1 (dists.take 10).length ((dists.take 10).map Value.string) 9 1, row false s.2 (dists.take 10).length ((dists.take 10).map Value.string) 9 1]) (fun _ => rfl) (by kernel_rfl) rfl rfl
    (fun w hw => (to_any nb pats mb dl dv dists w hnb hps (hd.ext (hw.below rfl)) hdn).mono fun e w' ⟨v1, v2, h1, h2⟩ => ⟨(v1, v2), h1, trivial, h2⟩) ?_
  rintro ⟨v1, v2⟩ -
  dsimp only [List.cons_append, List.nil_append]
  have hnb' := cut_size nb 40
  have hps' := cut_size pats 300
  generalize cut nb 40 = nb' at hnb'
  generalize cut pats 300 = pats' at hps'
  generalize dists.take 10 = l10 at hds' hd10
  refine k_rowslice 0 rfl ?_
  rintro ⟨e1, c1, rfl⟩
  refine k_rowslice 1 rfl ?_
  rintro ⟨e2, c2, rfl⟩
  refine walk ?_
  refine k_alloc (cs := [.string ⟨#[]⟩, .string ⟨#[]⟩, .int .i64 0, .int .i64 0, .slice none 0 0]) rfl rfl ?_
  intro tb
  refine walk ?_
  refine k_alloc (cs := [.string ⟨#[]⟩, .string ⟨#[]⟩, .int .i64 0, .int .i64 0, .slice none 0 0]) rfl rfl ?_
  intro ub
  refine k_stE1 [.string nb', .string pats', .int .i64 mb, .int .i64 dl, .slice e1 l10.length c1] rfl rfl rfl rfl rfl rfl (by rfl) ?_
  refine k_stE0 [.string nb', .string pats', .int .i64 mb, .int .i64 dl, .slice e2 l10.length c2] rfl rfl rfl rfl rfl rfl (by rfl) ?_
  refine walk ?_
  have hms : maxLen = 9223372036854775807 := rfl
  refine k_call (by kernel_rfl) rfl rfl (fun w hw => feedCompile_any nb' pats' mb dl (.slice e1 l10.length c1) l10 m w (by omega) (by omega) (strs_of_row (hw.row 2 rfl)) hds' hd10 (cell_ext (hw.below rfl) hm)) ?_
  rintro w e w1 hw ⟨hx1, hno, hyes⟩
  have hS1 := hw.ext hx1
  have hB1 := hS1.below rfl
  have hm1 := cell_ext hB1 hm
  by_cases hck : checkP nb'.data.toList pats'.data.toList mb dl l10 = 0
  · obtain ⟨fb, items, hP, -, hF, rfl⟩ := hyes hck
    have hdl := check_dl hck
    have hT5 := hS1.blk 1 rfl
    have hT3 := hS1.blk 4 rfl
    refine ⟨_, rfl, ?_⟩
    have hg1 := hg.ext hB1
    refine j_of_k (Sat.refl w1) ?_
    refine walk ?_
    refine k_callS (σ := Value × Value) (val := fun s => .tuple #[.agg (fitemC [.int .u8 (UInt8.toNat i0), .int .u8 (UInt8.toNat i1), .int .u8 (UInt8.toNat i2), .int .u8 (UInt8.toNat i3), .int .u8 (UInt8.toNat i4), .int .u8 (UInt8.toNat i5), .int .u8 (UInt8.toNat i6), .int .u8 (UInt8.toNat i7), .int .u8 (UInt8.toNat i8), .int .u8 (UInt8.toNat i9), .int .u8 (UInt8.toNat i10), .int .u8 (UInt8.toNat i11), .int .u8 (UInt8.toNat i12), .int .u8 (UInt8.toNat i13), .int .u8 (UInt8.toNat i14), .int .u8 (UInt8.toNat i15), .int .u8 (UInt8.toNat i16), .int .u8 (UInt8.toNat i17), .int .u8 (UInt8.toNat i18), .int .u8 (UInt8.toNat i19), .int .u8 (UInt8.toNat i20), .int .u8 (UInt8.toNat i21), .int .u8 (UInt8.toNat i22), .int .u8 (UInt8.toNat i23), .int .u8 (UInt8.toNat i24), .int .u8 (UInt8.toNat i25), .int .u8 (UInt8.toNat i26), .int .u8 (UInt8.toNat i27), .int .u8 (UInt8.toNat i28), .int .u8 (UInt8.toNat i29), .int .u8 (UInt8.toNat i30), .int .u8 (UInt8.toNat i31)] s.1 d n c f a).toArray, .agg (fitemC [.int .u8 (UInt8.toNat i0), .int .u8 (UInt8.toNat i1), .int .u8 (UInt8.toNat i2), .int .u8 (UInt8.toNat i3), .int .u8 (UInt8.toNat i4), .int .u8 (UInt8.toNat i5), .int .u8 (UInt8.toNat i6), .int .u8 (UInt8.toNat i7), .int .u8 (UInt8.toNat i8), .int .u8 (UInt8.toNat i9), .int .u8 (UInt8.toNat i10), .int .u8 (UInt8.toNat i11), .int .u8 (UInt8.toNat i12), .int .u8 (UInt8.toNat i13), .int .u8 (UInt8.toNat i14), .int .u8 (UInt8.toNat i15), .int .u8 (UInt8.toNat i16), .int .u8 (UInt8.toNat i17), .int .u8 (UInt8.toNat i18), .int .u8 (UInt8.toNat i19), .int .u8 (UInt8.toNat i20), .int .u8 (UInt8.toNat i21), .int .u8 (UInt8.toNat i22), .int .u8 (UInt8.toNat i23), .int .u8 (UInt8.toNat i24), .int .u8 (UInt8.toNat i25), .int .u8 (UInt8.toNat i26), .int .u8 (UInt8.toNat i27), .int .u8 (UInt8.toNat i28), .int .u8 (UInt8.toNat i29), .int .u8 (UInt8.toNat i30), .int .u8 (UInt8.toNat i31)] s.2 d n c f a).toArray]) (ok := fun _ => True) (own := fun s => [row false s.1 (gs.take 20).length ((gs.take 20).map Value.string) 9 1, row false s.2 (gs.take 20).length ((gs.take 20).map Value.string) 9 1]) (fun _ => rfl) (by kernel_rfl) rfl rfl
      (fun w hw => (item_any [i0, i1, i2, i3, i4, i5, i6, i7, i8, i9, i10, i11, i12, i13, i14, i15, i16, i17, i18, i19, i20, i21, i22, i23, i24, i25, i26, i27, i28, i29, i30, i31] ea cap gs d n c f a w rfl (hg1.ext (hw.below rfl)) hgn hn).mono fun e w' ⟨v1, v2, h1, h2⟩ => ⟨(v1, v2), h1, trivial, h2⟩) ?_
    rintro ⟨v3, v4⟩ -
    dsimp only [List.cons_append, List.nil_append]
    generalize gs.take 20 = l20 at hgs' hg20
    refine k_rowslice 0 rfl ?_
    rintro ⟨e3, c3, rfl⟩
    refine k_rowslice 1 rfl ?_
    rintro ⟨e4, c4, rfl⟩
    refine walk ?_
    refine k_alloc (cs := z32 ++ [.slice none 0 0, .string ⟨#[]⟩, .int .i64 0, .bool false, .string ⟨#[]⟩, .int .i64 0]) rfl rfl ?_
    intro xb
    refine walk ?_
    refine k_alloc (cs := z32 ++ [.slice none 0 0, .string ⟨#[]⟩, .int .i64 0, .bool false, .string ⟨#[]⟩, .int .i64 0]) rfl rfl ?_
    intro yb
    refine k_stE1 (fitemC [.int .u8 (UInt8.toNat i0), .int .u8 (UInt8.toNat i1), .int .u8 (UInt8.toNat i2), .int .u8 (UInt8.toNat i3), .int .u8 (UInt8.toNat i4), .int .u8 (UInt8.toNat i5), .int .u8 (UInt8.toNat i6), .int .u8 (UInt8.toNat i7), .int .u8 (UInt8.toNat i8), .int .u8 (UInt8.toNat i9), .int .u8 (UInt8.toNat i10), .int .u8 (UInt8.toNat i11), .int .u8 (UInt8.toNat i12), .int .u8 (UInt8.toNat i13), .int .u8 (UInt8.toNat i14), .int .u8 (UInt8.toNat i15), .int .u8 (UInt8.toNat i16), .int .u8 (UInt8.toNat i17), .int .u8 (UInt8.toNat i18), .int .u8 (UInt8.toNat i19), .int .u8 (UInt8.toNat i20), .int .u8 (UInt8.toNat i21), .int .u8 (UInt8.toNat i22), .int .u8 (UInt8.toNat i23), .int .u8 (UInt8.toNat i24), .int .u8 (UInt8.toNat i25), .int .u8 (UInt8.toNat i26), .int .u8 (UInt8.toNat i27), .int .u8 (UInt8.toNat i28), .int .u8 (UInt8.toNat i29), .int .u8 (UInt8.toNat i30), .int .u8 (UInt8.toNat i31)] (.slice e3 l20.length c3) d n c f a) rfl rfl rfl rfl rfl rfl (by rfl) ?_
    refine k_stE0 (fitemC [.int .u8 (UInt8.toNat i0), .int .u8 (UInt8.toNat i1), .int .u8 (UInt8.toNat i2), .int .u8 (UInt8.toNat i3), .int .u8 (UInt8.toNat i4), .int .u8 (UInt8.toNat i5), .int .u8 (UInt8.toNat i6), .int .u8 (UInt8.toNat i7), .int .u8 (UInt8.toNat i8), .int .u8 (UInt8.toNat i9), .int .u8 (UInt8.toNat i10), .int .u8 (UInt8.toNat i11), .int .u8 (UInt8.toNat i12), .int .u8 (UInt8.toNat i13), .int .u8 (UInt8.toNat i14), .int .u8 (UInt8.toNat i15), .int .u8 (UInt8.toNat i16), .int .u8 (UInt8.toNat i17), .int .u8 (UInt8.toNat i18), .int .u8 (UInt8.toNat i19), .int .u8 (UInt8.toNat i20), .int .u8 (UInt8.toNat i21), .int .u8 (UInt8.toNat i22), .int .u8 (UInt8.toNat i23), .int .u8 (UInt8.toNat i24), .int .u8 (UInt8.toNat i25), .int .u8 (UInt8.toNat i26), .int .u8 (UInt8.toNat i27), .int .u8 (UInt8.toNat i28), .int .u8 (UInt8.toNat i29), .int .u8 (UInt8.toNat i30), .int .u8 (UInt8.toNat i31)] (.slice e4 l20.length c4) d n c f a) rfl rfl rfl rfl rfl rfl (by rfl) ?_
    refine walk ?_
    refine k_sub [(2, .pointer (some ⟨rb, 0, none⟩)), (3, .pointer (some ⟨ib, 0, none⟩)), (5, .pointer (some ⟨tb, 0, none⟩)), (7, .pointer (some ⟨fb, 0, none⟩)), (9, .pointer (some ⟨xb, 0, none⟩))] [bk false xb (fitemC [.int .u8 (UInt8.toNat i0), .int .u8 (UInt8.toNat i1), .int .u8 (UInt8.toNat i2), .int .u8 (UInt8.toNat i3), .int .u8 (UInt8.toNat i4), .int .u8 (UInt8.toNat i5), .int .u8 (UInt8.toNat i6), .int .u8 (UInt8.toNat i7), .int .u8 (UInt8.toNat i8), .int .u8 (UInt8.toNat i9), .int .u8 (UInt8.toNat i10), .int .u8 (UInt8.toNat i11), .int .u8 (UInt8.toNat i12), .int .u8 (UInt8.toNat i13), .int .u8 (UInt8.toNat i14), .int .u8 (UInt8.toNat i15), .int .u8 (UInt8.toNat i16), .int .u8 (UInt8.toNat i17), .int .u8 (UInt8.toNat i18), .int .u8 (UInt8.toNat i19), .int .u8 (UInt8.toNat i20), .int .u8 (UInt8.toNat i21), .int .u8 (UInt8.toNat i22), .int .u8 (UInt8.toNat i23), .int .u8 (UInt8.toNat i24), .int .u8 (UInt8.toNat i25), .int .u8 (UInt8.toNat i26), .int .u8 (UInt8.toNat i27), .int .u8 (UInt8.toNat i28), .int .u8 (UInt8.toNat i29), .int .u8 (UInt8.toNat i30), .int .u8 (UInt8.toNat i31)] (.slice e3 l20.length c3) d n true f a) 39, row false (.slice e3 l20.length c3) l20.length (l20.map Value.string) 9 1] (by repeat (first | exact Sub.nil | refine Sub.cons rfl ?_)) (by repeat (first | exact SubO.nil | refine SubO.keep ?_ | refine SubO.drop rfl ?_)) ?_
    refine k_held 9 [0, 1, 4, 5, 6, 7, 8, 2, 3] (by kernel_rfl) (by kernel_rfl) ?_
    dsimp only [pickL, nth, List.drop]
    refine hwalk ?_
    refine kh_callb (v := .int .i64 (if f = nb' then 1 else 0)) (by kernel_rfl) rfl rfl (fun w hw => (reason_any (ic := [.int .u8 (UInt8.toNat i0), .int .u8 (UInt8.toNat i1), .int .u8 (UInt8.toNat i2), .int .u8 (UInt8.toNat i3), .int .u8 (UInt8.toNat i4), .int .u8 (UInt8.toNat i5), .int .u8 (UInt8.toNat i6), .int .u8 (UInt8.toNat i7), .int .u8 (UInt8.toNat i8), .int .u8 (UInt8.toNat i9), .int .u8 (UInt8.toNat i10), .int .u8 (UInt8.toNat i11), .int .u8 (UInt8.toNat i12), .int .u8 (UInt8.toNat i13), .int .u8 (UInt8.toNat i14), .int .u8 (UInt8.toNat i15), .int .u8 (UInt8.toNat i16), .int .u8 (UInt8.toNat i17), .int .u8 (UInt8.toNat i18), .int .u8 (UInt8.toNat i19), .int .u8 (UInt8.toNat i20), .int .u8 (UInt8.toNat i21), .int .u8 (UInt8.toNat i22), .int .u8 (UInt8.toNat i23), .int .u8 (UInt8.toNat i24), .int .u8 (UInt8.toNat i25), .int .u8 (UInt8.toNat i26), .int .u8 (UInt8.toNat i27), .int .u8 (UInt8.toNat i28), .int .u8 (UInt8.toNat i29), .int .u8 (UInt8.toNat i30), .int .u8 (UInt8.toNat i31)]) (gv := .slice e3 l20.length c3) (d := d) (n := n) (c := true) (f := f) (a := a) (hF.ext (hw.below rfl)) rfl (strs_of_row (hw.row 1 rfl)) hgs' hg20 hd10).mono fun e w' h => ⟨by rw [h.1, reason_ctl], h.2⟩) ?_
    refine hwalk ?_
    refine k_op rfl (fun _ _ => ov_bneq_f Tryd.underlying4 rfl rfl (by by_cases hf : f = nb' <;> simp [hf])) ?_
    refine walk ?_
    refine k_heldS 6 [0, 1, 2, 3, 4, 5] [] (by repeat (first | exact SubO.nil | refine SubO.keep ?_ | refine SubO.drop rfl ?_)) (by kernel_rfl) (by kernel_rfl) ?_
    dsimp only [pickL, nth, List.drop]
    refine hwalk ?_
    refine kh_run rfl (k_stE0 (fitemC [.int .u8 (UInt8.toNat i0), .int .u8 (UInt8.toNat i1), .int .u8 (UInt8.toNat i2), .int .u8 (UInt8.toNat i3), .int .u8 (UInt8.toNat i4), .int .u8 (UInt8.toNat i5), .int .u8 (UInt8.toNat i6), .int .u8 (UInt8.toNat i7), .int .u8 (UInt8.toNat i8), .int .u8 (UInt8.toNat i9), .int .u8 (UInt8.toNat i10), .int .u8 (UInt8.toNat i11), .int .u8 (UInt8.toNat i12), .int .u8 (UInt8.toNat i13), .int .u8 (UInt8.toNat i14), .int .u8 (UInt8.toNat i15), .int .u8 (UInt8.toNat i16), .int .u8 (UInt8.toNat i17), .int .u8 (UInt8.toNat i18), .int .u8 (UInt8.toNat i19), .int .u8 (UInt8.toNat i20), .int .u8 (UInt8.toNat i21), .int .u8 (UInt8.toNat i22), .int .u8 (UInt8.toNat i23), .int .u8 (UInt8.toNat i24), .int .u8 (UInt8.toNat i25), .int .u8 (UInt8.toNat i26), .int .u8 (UInt8.toNat i27), .int .u8 (UInt8.toNat i28), .int .u8 (UInt8.toNat i29), .int .u8 (UInt8.toNat i30), .int .u8 (UInt8.toNat i31)] (.slice e3 l20.length c3) d n false f a) rfl rfl rfl rfl rfl rfl (by rfl) ?_)
    refine kh_back (by repeat (first | exact SubO.nil | refine SubO.keep ?_ | refine SubO.drop rfl ?_)) ?_
    refine hwalk ?_
    refine kh_run rfl (k_stE0 (fitemC [.int .u8 (UInt8.toNat i0), .int .u8 (UInt8.toNat i1), .int .u8 (UInt8.toNat i2), .int .u8 (UInt8.toNat i3), .int .u8 (UInt8.toNat i4), .int .u8 (UInt8.toNat i5), .int .u8 (UInt8.toNat i6), .int .u8 (UInt8.toNat i7), .int .u8 (UInt8.toNat i8), .int .u8 (UInt8.toNat i9), .int .u8 (UInt8.toNat i10), .int .u8 (UInt8.toNat i11), .int .u8 (UInt8.toNat i12), .int .u8 (UInt8.toNat i13), .int .u8 (UInt8.toNat i14), .int .u8 (UInt8.toNat i15), .int .u8 (UInt8.toNat i16), .int .u8 (UInt8.toNat i17), .int .u8 (UInt8.toNat i18), .int .u8 (UInt8.toNat i19), .int .u8 (UInt8.toNat i20), .int .u8 (UInt8.toNat i21), .int .u8 (UInt8.toNat i22), .int .u8 (UInt8.toNat i23), .int .u8 (UInt8.toNat i24), .int .u8 (UInt8.toNat i25), .int .u8 (UInt8.toNat i26), .int .u8 (UInt8.toNat i27), .int .u8 (UInt8.toNat i28), .int .u8 (UInt8.toNat i29), .int .u8 (UInt8.toNat i30), .int .u8 (UInt8.toNat i31)] (.slice e3 l20.length c3) d n false nb' a) rfl rfl rfl rfl rfl rfl (by rfl) ?_)
    refine kh_back (by repeat (first | exact SubO.nil | refine SubO.keep ?_ | refine SubO.drop rfl ?_)) ?_
    refine kh_nil ?_
    refine k_sub [(2, .pointer (some ⟨rb, 0, none⟩)), (3, .pointer (some ⟨ib, 0, none⟩)), (5, .pointer (some ⟨tb, 0, none⟩)), (7, .pointer (some ⟨fb, 0, none⟩)), (9, .pointer (some ⟨xb, 0, none⟩))] [bk false xb (fitemC [.int .u8 (UInt8.toNat i0), .int .u8 (UInt8.toNat i1), .int .u8 (UInt8.toNat i2), .int .u8 (UInt8.toNat i3), .int .u8 (UInt8.toNat i4), .int .u8 (UInt8.toNat i5), .int .u8 (UInt8.toNat i6), .int .u8 (UInt8.toNat i7), .int .u8 (UInt8.toNat i8), .int .u8 (UInt8.toNat i9), .int .u8 (UInt8.toNat i10), .int .u8 (UInt8.toNat i11), .int .u8 (UInt8.toNat i12), .int .u8 (UInt8.toNat i13), .int .u8 (UInt8.toNat i14), .int .u8 (UInt8.toNat i15), .int .u8 (UInt8.toNat i16), .int .u8 (UInt8.toNat i17), .int .u8 (UInt8.toNat i18), .int .u8 (UInt8.toNat i19), .int .u8 (UInt8.toNat i20), .int .u8 (UInt8.toNat i21), .int .u8 (UInt8.toNat i22), .int .u8 (UInt8.toNat i23), .int .u8 (UInt8.toNat i24), .int .u8 (UInt8.toNat i25), .int .u8 (UInt8.toNat i26), .int .u8 (UInt8.toNat i27), .int .u8 (UInt8.toNat i28), .int .u8 (UInt8.toNat i29), .int .u8 (UInt8.toNat i30), .int .u8 (UInt8.toNat i31)] (.slice e3 l20.length c3) d n false nb' a) 39, row false (.slice e3 l20.length c3) l20.length (l20.map Value.string) 9 1] (by repeat (first | exact Sub.nil | refine Sub.cons rfl ?_)) (by repeat (first | exact SubO.nil | refine SubO.keep ?_ | refine SubO.drop rfl ?_)) ?_
    refine walk ?_
    refine k_callb (v := .tuple #[.int .i64 0, .bool false]) (by kernel_rfl) rfl rfl (fun w hw => (due_any (ic := [.int .u8 (UInt8.toNat i0), .int .u8 (UInt8.toNat i1), .int .u8 (UInt8.toNat i2), .int .u8 (UInt8.toNat i3), .int .u8 (UInt8.toNat i4), .int .u8 (UInt8.toNat i5), .int .u8 (UInt8.toNat i6), .int .u8 (UInt8.toNat i7), .int .u8 (UInt8.toNat i8), .int .u8 (UInt8.toNat i9), .int .u8 (UInt8.toNat i10), .int .u8 (UInt8.toNat i11), .int .u8 (UInt8.toNat i12), .int .u8 (UInt8.toNat i13), .int .u8 (UInt8.toNat i14), .int .u8 (UInt8.toNat i15), .int .u8 (UInt8.toNat i16), .int .u8 (UInt8.toNat i17), .int .u8 (UInt8.toNat i18), .int .u8 (UInt8.toNat i19), .int .u8 (UInt8.toNat i20), .int .u8 (UInt8.toNat i21), .int .u8 (UInt8.toNat i22), .int .u8 (UInt8.toNat i23), .int .u8 (UInt8.toNat i24), .int .u8 (UInt8.toNat i25), .int .u8 (UInt8.toNat i26), .int .u8 (UInt8.toNat i27), .int .u8 (UInt8.toNat i28), .int .u8 (UInt8.toNat i29), .int .u8 (UInt8.toNat i30), .int .u8 (UInt8.toNat i31)]) (gv := .slice e3 l20.length c3) (d := d) (n := n) (c := false) (f := nb') (a := a) (hF.ext (hw.below rfl)) rfl (strs_of_row (hw.row 1 rfl)) hgs' hg20 hd10 hdl ha ha').mono fun e w' h => ⟨by rw [h.1, reason_own]; rfl, h.2⟩) ?_
    refine walk ?_
    refine k_callb (v := .bool true) (by kernel_rfl) rfl rfl (fun w hw => known_any m w (cell_ext (hw.below rfl) hm1)) ?_
    refine walk ?_
    refine k_callb (v := .int .i64 1) (by kernel_rfl) rfl rfl (fun w hw => (reason_any (ic := [.int .u8 (UInt8.toNat i0), .int .u8 (UInt8.toNat i1), .int .u8 (UInt8.toNat i2), .int .u8 (UInt8.toNat i3), .int .u8 (UInt8.toNat i4), .int .u8 (UInt8.toNat i5), .int .u8 (UInt8.toNat i6), .int .u8 (UInt8.toNat i7), .int .u8 (UInt8.toNat i8), .int .u8 (UInt8.toNat i9), .int .u8 (UInt8.toNat i10), .int .u8 (UInt8.toNat i11), .int .u8 (UInt8.toNat i12), .int .u8 (UInt8.toNat i13), .int .u8 (UInt8.toNat i14), .int .u8 (UInt8.toNat i15), .int .u8 (UInt8.toNat i16), .int .u8 (UInt8.toNat i17), .int .u8 (UInt8.toNat i18), .int .u8 (UInt8.toNat i19), .int .u8 (UInt8.toNat i20), .int .u8 (UInt8.toNat i21), .int .u8 (UInt8.toNat i22), .int .u8 (UInt8.toNat i23), .int .u8 (UInt8.toNat i24), .int .u8 (UInt8.toNat i25), .int .u8 (UInt8.toNat i26), .int .u8 (UInt8.toNat i27), .int .u8 (UInt8.toNat i28), .int .u8 (UInt8.toNat i29), .int .u8 (UInt8.toNat i30), .int .u8 (UInt8.toNat i31)]) (gv := .slice e3 l20.length c3) (d := d) (n := n) (c := false) (f := nb') (a := a) (hF.ext (hw.below rfl)) rfl (strs_of_row (hw.row 1 rfl)) hgs' hg20 hd10).mono fun e w' h => ⟨by rw [h.1, reason_own], h.2⟩) ?_
    refine walk ?_
    exact k_ret1 rfl rfl fun w hw => ⟨rfl, hB1.trans ((hw.below rfl).mono hB1.size)⟩
  · rw [hno hck]
    refine ⟨_, rfl, ?_⟩
    have hz := hck
    generalize checkP nb'.data.toList pats'.data.toList mb dl l10 = z at hz
    refine j_of_k hS1 ?_
    refine walk ?_
    refine k_callb (v := .bool true) (by kernel_rfl) rfl rfl (fun w hw => known_any m w (cell_ext (hw.below rfl) hm)) ?_
    refine walk ?_
    exact k_ret1 rfl rfl fun w hw => ⟨rfl, hw.below rfl⟩
end Go.Proofs.YtddiecdoaggaaaaDoor
