/- FeedruleReasons answers true for every row and every item, and leaves its arguments as they were: the full statement's card. -/
import Derived.Test.YtddiecdoaggaaaaDoorFeedR
import Derived.Test.YtddiecdoaggaaaaDoorTopW
namespace Go.Proofs.YtddiecdoaggaaaaDoor.ReasonsFull
open Go.ChangeShapes Go.WideShapes Go.ChangeAt Go.RowKit

theorem own : ownKnob Tryd.prog.godebug = none := by kernel_rfl
theorem laidOut : laidOutB Tryd.prog = true := by kernel_rfl
theorem params : Tryd.f3.params.toList.all (fun t => Tryd.prog.readableRec t && decide (t < Tryd.prog.types.size)) = true := by kernel_rfl
/-- A slice of strings within an argument. -/
theorem strs_of {P : Program} {W : World} {base : Nat} {v : Value} {l : List ByteArray} {t e : TypeId} (ht : P.underlying t = some (.slice e)) (hr : RowAt W v 1 (l.map fun s => [.string s])) (hk : Cell.okWide P W .any base t v) : ∃ ea cap, v = .slice ea l.length cap ∧ StrsAt W (.slice ea l.length cap) l ∧ (ea = none → cap = 0) := by
  obtain ⟨ea, cap, rfl, hc⟩ := hr
  rw [List.length_map] at hk ⊢
  simp only [Cell.okWide, ht] at hk
  have hcells : ∀ i s, l[i]? = some s → ∃ b o, ea = some ⟨b, o, none⟩ ∧ W.cell? ⟨b, o + i, none⟩ = some (.string s) := fun i s hi => by
    obtain ⟨b, o, h1, h2⟩ := hc i [.string s] (by rw [List.getElem?_map, hi]; rfl)
    refine ⟨b, o, h1, ?_⟩
    have := h2 0 (.string s) rfl
    simpa using this
  cases ea with
  | none =>
    have h0 : l.length = 0 ∧ cap = 0 := by
      unfold Cell.ok at hk
      rw [ht] at hk
      split at hk <;> simp_all
    obtain ⟨h0, rfl⟩ := h0
    exact ⟨none, 0, rfl, ⟨none, 0, rfl, ⟨by omega, fun a ha => by cases ha⟩, hcells⟩, fun _ => rfl⟩
  | some a =>
    have h1 : l.length ≤ cap ∧ a.block < W.heap.size := by
      unfold Cell.ok at hk
      rw [ht] at hk
      simp only [World.has] at hk
      obtain ⟨h1, _, _, _, row, cells, hs, _⟩ := hk
      refine ⟨h1, ?_⟩
      unfold World.shape? at hs
      cases hh : W.heap[a.block]? with
      | none => rw [hh] at hs; cases hs
      | some x => exact (Array.getElem?_eq_some_iff.1 hh).1
    exact ⟨some a, cap, rfl, ⟨some a, cap, rfl, ⟨h1.1, fun a' ha => by cases ha; exact h1.2⟩, hcells⟩, fun h => by cases h⟩
theorem cell_of_row {P : Program} {W : World} {base : Nat} {t u : TypeId} {ts : List TypeId} {v : Value} {cs : List Value} {i : Nat} (h : Value.okWide P W .any base t (.agg cs.toArray)) (ht : (match P.underlying t with | some (.struct _) => true | _ => false) = true) (hts : P.cellTypes P.depth t = some ts) (hu : ts[i % ts.length]? = some u) (hi : cs[i]? = some v) : Cell.okWide P W .any base u v := by
  unfold Value.okWide at h
  split at ht
  · rename_i fs hfs
    simp only [hfs] at h
    obtain ⟨cs', h1, _, ts', h2, _, h3⟩ := h
    injection h1 with h1
    subst h1
    rw [hts] at h2
    injection h2 with h2
    subst h2
    obtain ⟨u', h4, h5⟩ := h3 i v (by simpa using hi)
    rw [hu] at h4
    injection h4 with h4
    subst h4
    exact h5
  · cases ht
def eR (c : ByteArray × ByteArray × Int × Int × (Value × List ByteArray) × Unit) : List Value := [.string c.1, .string c.2.1, .int .i64 c.2.2.1, .int .i64 c.2.2.2.1, c.2.2.2.2.1.1]
set_option maxRecDepth 100000 in
theorem contract (H : Type) (enc : TypeId × Value → H) (W : World) (base : Nat) (args : Array Value) (ds gs : List (DataW H)) (before : List MemPlace)
    (hval : ∀ (j : Nat) t v, Tryd.f3.params[j]? = some t → args[j]? = some v → Value.okWide Tryd.prog W .any base t v)
    (hW : DataW.Whole enc Tryd.prog Tryd.f3.params.toList Rows.feedruleReasonsSpec.vars false W args.toList ds gs before) (_hL : laidMetH Tryd.prog Rows.feedruleReasonsRow.laid W) (hsh : W.ShapedOpen Tryd.prog) (hwt : (DataW.weightsEach Tryd.prog (Tryd.f3.params.toList ++ (OpenSpec.ofChange Rows.feedruleReasonsSpec).bare.plain.varTypes Tryd.prog) (ds ++ gs)).all (· ≤ reachBytes) = true) :
    Calls Tryd.prog 3 args W fun e W' => ∃ v, e = .returned v ∧ Rows.feedruleReasonsSpec.post enc Tryd.prog Tryd.f3 false true false false W args v W' := by
  have hW' := hW
  obtain ⟨p, q, hA, hV, rfl, hfz, hnd⟩ := hW
  have hp : ∀ t ∈ Tryd.f3.params.toList, Tryd.prog.readableRec t = true ∧ t < Tryd.prog.types.size := fun t ht => by simpa using List.all_eq_true.1 params t ht
  have hP : Tryd.f3.params = #[24, 27] := by kernel_rfl
  rw [hP] at hA hval
  obtain ⟨v0, vs0, d0, ds0, p0, q0, hargs, rfl, rfl, h0, r0⟩ := trodAll_cons hA
  obtain ⟨v1, vs1, d1, ds1, p1, q1, rfl, rfl, rfl, h1, r1⟩ := trodAll_cons r0
  obtain ⟨rfl, rfl, rfl⟩ := trodAll_nil r1
  obtain rfl : args = #[v0, v1] := by cases args; simp_all
  have hv0 := hval 0 24 v0 (by simp) (by simp)
  have hv1 := hval 1 27 v1 (by simp) (by simp)
  rw [hP] at hwt
  have hw0 : wt Tryd.prog 24 d0 := wt_each (j := 0) hwt rfl rfl
  have hw1 : wt Tryd.prog 27 d1 := wt_each (j := 1) hwt rfl rfl
  have hstrs : DecW enc Tryd.prog W 22 (fun c : Value × List ByteArray => [c.1]) (fun c => RowAt W c.1 1 (c.2.map fun s => [.string s]) ∧ (∀ x ∈ c.2, x.size ≤ reachBytes) ∧ c.2.length ≤ maxLen) := wdec_slice Tryd.underlying22 (by kernel_rfl : Tryd.prog.cellsOf 9 = 1) (by decide) (wdec_str Tryd.underlying9)
  have hdR := wdec_struct (W := W) (enc := enc) (t := 24) Tryd.underlying24 rfl (by kernel_rfl) (by kernel_rfl) (wdecL_cons (wdec_str Tryd.underlying9) (wdecL_cons (wdec_str Tryd.underlying9) (wdecL_cons (wdec_of fun _ => dec_int Tryd.underlying3) (wdecL_cons (wdec_of fun _ => dec_int Tryd.underlying3) (wdecL_cons hstrs wdecL_nil)))))
  have hdI := wdec_struct (W := W) (enc := enc) (t := 27) Tryd.underlying27 rfl (by kernel_rfl) (by kernel_rfl) (wdecL_cons (wdec_of fun _ => dec_bytes (n := 32) Tryd.underlying25 Tryd.underlying5 (by kernel_rfl) (by kernel_rfl)) (wdecL_cons hstrs (wdecL_cons (wdec_str Tryd.underlying9) (wdecL_cons (wdec_of fun _ => dec_int Tryd.underlying3) (wdecL_cons (wdec_of fun _ => dec_bool Tryd.underlying4) (wdecL_cons (wdec_str Tryd.underlying9) (wdecL_cons (wdec_of fun _ => dec_int Tryd.underlying3) wdecL_nil)))))))
  obtain ⟨⟨nb, pats, mb, dl, ⟨dv, dists⟩, ⟨⟩⟩, ⟨hnb, hps, hmb, hdl, ⟨hdr, hds, hdn⟩, _⟩, rfl⟩ := warg_struct Tryd.underlying24 hv0 hdR h0 hw0
  obtain ⟨⟨bs, ⟨gv, gs⟩, d, n, c, f, a, ⟨⟩⟩, ⟨hbs, ⟨hgr, hgs, hgn⟩, hd, hn, _, hf, ha, _⟩, rfl⟩ := warg_struct Tryd.underlying27 hv1 hdI h1 hw1
  obtain ⟨m, hm⟩ := cell_of_shapedOpen_int (g := 0) (zero := #[.int .i64 0]) (t := 3) hsh (of_decide_eq_true (by kernel_rfl)) (by kernel_rfl) rfl (by kernel_rfl) (by kernel_rfl) (by kernel_rfl)
  dsimp only at hnb hps hmb hdl hdr hds hdn hbs hgr hgs hgn hd hn hf ha hv0 hv1
  have hk0 : Cell.okWide Tryd.prog W .any base 22 dv := cell_of_row (i := 4) (ts := [9, 9, 3, 3, 22]) hv0 (by kernel_rfl) (by kernel_rfl) rfl rfl
  obtain ⟨i0, i1, i2, i3, i4, i5, i6, i7, i8, i9, i10, i11, i12, i13, i14, i15, i16, i17, i18, i19, i20, i21, i22, i23, i24, i25, i26, i27, i28, i29, i30, i31, rfl⟩ := list32 hbs
  have hk1 : Cell.okWide Tryd.prog W .any base 22 gv := cell_of_row (i := 32) (ts := List.replicate 32 5 ++ [22, 9, 3, 4, 9, 3]) hv1 (by kernel_rfl) (by kernel_rfl) rfl rfl
  obtain ⟨ea0, cap0, rfl, hS0, -⟩ := strs_of Tryd.underlying22 hdr hk0
  obtain ⟨ea, cap, rfl, hS1, hz⟩ := strs_of Tryd.underlying22 hgr hk1
  exact (reasons_any nb pats mb dl _ dists _ ea cap gs d n c f a m W hm (Nat.le_trans hnb (by decide)) (Nat.le_trans hps (by decide)) hS0 hdn (fun s hs => Nat.le_trans (hds s hs) (by decide)) rfl hS1 hgn (fun s hs => Nat.le_trans (hgs s hs) (by decide)) hz ha.1 ha.2).mono fun e W' h => ⟨_, h.1, law_post (tb := 4) laidOut (by kernel_rfl) (by kernel_rfl) hp (by kernel_rfl) rfl hW' h.2⟩
def wI : Value := .agg (List.replicate 32 (Value.int .u8 0) ++ [Value.slice none 0 0, Value.string ⟨#[]⟩, Value.int .i64 0, Value.bool false, Value.string ⟨#[]⟩, Value.int .i64 0]).toArray
def dI {H : Type} : DataW H := .agg [.agg (List.replicate 32 (DataW.lit (.int .u8 0))), .nil, .lit (.string []), .lit (.int .i64 0), .lit (.bool false), .lit (.string []), .lit (.int .i64 0)]
/-! The witness. -/
noncomputable def laidWorld (os : Os) : World := { World.holding Tryd.prog os ⟨#[], #[], []⟩ with heap := layG (layG ((World.holding Tryd.prog os ⟨#[], #[], []⟩).heap) 2 (flatD (H := Unit) Rows.laid_unicode_utf8_acceptRanges)) 1 (flatD (H := Unit) Rows.laid_unicode_utf8_first) }
theorem laid_met (os : Os) : laidMet Tryd.prog Rows.feedruleReasonsRow.laid ((laidWorld os).forCall (fun _ _ => 0) ⟨#[], #[.agg #[.string ⟨#[]⟩, .string ⟨#[]⟩, .int .i64 0, .int .i64 0, .slice none 0 0], wI], []⟩).memory :=
  laidMet_of_run' 8 (by kernel_rfl) (by kernel_rfl)
theorem reads (os : Os) {H : Type} (enc : TypeId × Value → H) : ∃ places, DataW.whole enc Tryd.prog ((laidWorld os).forCall (fun _ _ => 0) ⟨#[], #[.agg #[.string ⟨#[]⟩, .string ⟨#[]⟩, .int .i64 0, .int .i64 0, .slice none 0 0], wI], []⟩).memory Tryd.f3.params.toList Rows.feedruleReasonsSpec.vars false #[.agg #[.string ⟨#[]⟩, .string ⟨#[]⟩, .int .i64 0, .int .i64 0, .slice none 0 0], wI].toList 8 = some ([.agg [.lit (.string []), .lit (.string []), .lit (.int .i64 0), .lit (.int .i64 0), .nil], dI], [], places) :=
  ⟨[], by kernel_rfl⟩
set_option maxRecDepth 100000 in
theorem lifted (os : Os) (started : os.Started) (H : Type) (enc : TypeId × Value → H) (F : Stop.Interp) :
    ReturnsInHanded {} Tryd.checked os 3 .any ((OpenSpec.ofChange Rows.feedruleReasonsSpec).preRow enc Tryd.prog Tryd.f3 Rows.feedruleReasonsRow.domain false Rows.feedruleReasonsRow.laid) (((OpenSpec.ofChange Rows.feedruleReasonsSpec).at F).post enc Tryd.prog Tryd.f3 false true false false) := by
  obtain ⟨places, hx⟩ := reads os enc
  refine returnsInHanded_of_row (C := Tryd.checked) (s := OpenSpec.ofChange Rows.feedruleReasonsSpec) own started (by kernel_rfl) Tryd.func3
    (witness_row_at (enc := enc) (C := Tryd.checked) false (laidWorld os) #[.agg #[.string ⟨#[]⟩, .string ⟨#[]⟩, .int .i64 0, .int .i64 0, .slice none 0 0], wI] rfl (by kernel_rfl) (by kernel_rfl) (by kernel_rfl)
      (OpenSpec.preRow_of_cond 8 hx (by kernel_rfl) (fun k hk => by cases hk) (by kernel_rfl) (laid_met os))) ?_
  intro W base args ds gs before hval hW _ hcond hwt hL hsh _
  exact contract H enc W base args ds gs before hval hW hL hsh hwt
theorem said : Rows.FeedruleReasonsSaid :=
  OpenClaim.holds_of_cond 3 Tryd.f3 rfl rfl rfl rfl rfl rfl rfl ⟨rfl, rfl, rfl, rfl, rfl⟩ rfl rfl rfl rfl rfl (by kernel_rfl) Tryd.func3 (by kernel_rfl)
    (of_decide_eq_true (by kernel_rfl)) (by unfold Func.isWrapper; first | (rw [if_pos (by decide +kernel)]; kernel_rfl) | (rw [if_neg (by decide +kernel)]; exact ⟨rfl, rfl⟩))
    (fun os started H enc _ F => by rw [OpenClaim.pre_eq_preRow]; exact lifted os started H enc F)
/-- No parameter wants a stand-in; the program's own looks are off. -/
theorem plain (f : FuncId) (fn : Func) (hf : Tryd.pinned.checked.prog.funcNamed "bulletin/bulletinlaw37.FeedruleReasons" = some f) (hfn : Tryd.pinned.checked.prog.funcs[f]? = some fn) :
    false = Tryd.pinned.checked.prog.looks [] ∧ ∀ (j : Nat) t, fn.params[j]? = some t → Tryd.pinned.checked.prog.wantsStandIn t = false := by
  obtain rfl : f = 3 := Option.some.inj ((show Tryd.prog.funcNamed "bulletin/bulletinlaw37.FeedruleReasons" = some 3 by kernel_rfl).symm.trans hf) |>.symm
  obtain rfl : fn = Tryd.f3 := (Option.some.inj (Tryd.func3.symm.trans hfn)).symm
  refine ⟨by kernel_rfl, fun j t ht => ?_⟩
  have key : (Tryd.f3.params.toList.all fun t => !Tryd.prog.wantsStandIn t) = true := by kernel_rfl
  have := List.all_eq_true.1 key t (by simpa using Array.mem_of_getElem? ht)
  show Tryd.prog.wantsStandIn t = false
  simpa using this
theorem card : Rows.FeedruleReasonsCardSaid :=
  Claim7.holds_tied_plain_at .later [] _ _ _ _ said (fun _ h => by cases h) (by kernel_rfl) (fun _ h => by cases h) feedruleReasons_row_tie rfl ⟨rfl, rfl⟩ (by kernel_rfl) rfl plain (by kernel_rfl)

end Go.Proofs.YtddiecdoaggaaaaDoor.ReasonsFull
