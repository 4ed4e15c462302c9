/- FeedruleLater answers true for every row, every list of items and every two times, and leaves its arguments as they were: the full statement's card. -/
import Derived.Test.YtddiecdoaggaaaaDoorFeedN
import Derived.Test.YtddiecdoaggaaaaDoorTopS
namespace Go.Proofs.YtddiecdoaggaaaaDoor.Later
open Go.ChangeShapes Go.WideShapes Go.ChangeAt Go.RowKit

theorem own : ownKnob Tryd.prog.godebug = none := by kernel_rfl
theorem laidOut : laidOutB Tryd.prog = true := by kernel_rfl
theorem params : Tryd.f7.params.toList.all (fun t => Tryd.prog.readableRec t && decide (t < Tryd.prog.types.size)) = true := by kernel_rfl
/-- A slice of strings within an argument. -/
theorem strs_of {P : Program} {W : World} {base : Nat} {v : Value} {l : List ByteArray} {t e : TypeId} (ht : P.underlying t = some (.slice e)) (hr : RowAt W v 1 (l.map fun s => [.string s])) (hk : Cell.okWide P W .any base t v) : ∃ ea cap, v = .slice ea l.length cap ∧ StrsAt W (.slice ea l.length cap) l ∧ (ea = none → cap = 0) := by
  obtain ⟨ea, cap, rfl, hc⟩ := hr
  rw [List.length_map] at hk ⊢
  simp only [Cell.okWide, ht] at hk
  have hcells : ∀ i s, l[i]? = some s → ∃ b o, ea = some ⟨b, o, none⟩ ∧ W.cell? ⟨b, o + i, none⟩ = some (.string s) := fun i s hi => by
    obtain ⟨b, o, h1, h2⟩ := hc i [.string s] (by rw [List.getElem?_map, hi]; rfl)
    refine ⟨b, o, h1, ?_⟩
    have := h2 0 (.string s) rfl
    simpa using this
  cases ea with
  | none =>
    have h0 : l.length = 0 ∧ cap = 0 := by
      unfold Cell.ok at hk
      rw [ht] at hk
      split at hk <;> simp_all
    obtain ⟨h0, rfl⟩ := h0
    exact ⟨none, 0, rfl, ⟨none, 0, rfl, ⟨by omega, fun a ha => by cases ha⟩, hcells⟩, fun _ => rfl⟩
  | some a =>
    have h1 : l.length ≤ cap ∧ a.block < W.heap.size := by
      unfold Cell.ok at hk
      rw [ht] at hk
      simp only [World.has] at hk
      obtain ⟨h1, _, _, _, row, cells, hs, _⟩ := hk
      refine ⟨h1, ?_⟩
      unfold World.shape? at hs
      cases hh : W.heap[a.block]? with
      | none => rw [hh] at hs; cases hs
      | some x => exact (Array.getElem?_eq_some_iff.1 hh).1
    exact ⟨some a, cap, rfl, ⟨some a, cap, rfl, ⟨h1.1, fun a' ha => by cases ha; exact h1.2⟩, hcells⟩, fun h => by cases h⟩
theorem cell_of_row {P : Program} {W : World} {base : Nat} {t u : TypeId} {ts : List TypeId} {v : Value} {cs : List Value} {i : Nat} (h : Value.okWide P W .any base t (.agg cs.toArray)) (ht : (match P.underlying t with | some (.struct _) => true | _ => false) = true) (hts : P.cellTypes P.depth t = some ts) (hu : ts[i % ts.length]? = some u) (hi : cs[i]? = some v) : Cell.okWide P W .any base u v := by
  unfold Value.okWide at h
  split at ht
  · rename_i fs hfs
    simp only [hfs] at h
    obtain ⟨cs', h1, _, ts', h2, _, h3⟩ := h
    injection h1 with h1
    subst h1
    rw [hts] at h2
    injection h2 with h2
    subst h2
    obtain ⟨u', h4, h5⟩ := h3 i v (by simpa using hi)
    rw [hu] at h4
    injection h4 with h4
    subst h4
    exact h5
  · cases ht
def eR (c : ByteArray × ByteArray × Int × Int × (Value × List ByteArray) × Unit) : List Value := [.string c.1, .string c.2.1, .int .i64 c.2.2.1, .int .i64 c.2.2.2.1, c.2.2.2.2.1.1]
abbrev ItC := List UInt8 × (Value × List ByteArray) × ByteArray × Int × Bool × ByteArray × Int × Unit
def eI (c : ItC) : List Value := bytesV c.1 ++ [c.2.1.1, .string c.2.2.1, .int .i64 c.2.2.2.1, .bool c.2.2.2.2.1, .string c.2.2.2.2.2.1, .int .i64 c.2.2.2.2.2.2.1]
def toIt (c : ItC) : ItX := { id := if h : c.1.length = 32 then ⟨c.1, h⟩ else ⟨List.replicate 32 0, List.length_replicate ..⟩, gv := c.2.1.1, gs := c.2.1.2, d := c.2.2.1, n := c.2.2.2.1, c := c.2.2.2.2.1, f := c.2.2.2.2.2.1, a := c.2.2.2.2.2.2.1 }
theorem cells_toIt {c : ItC} (h : c.1.length = 32) : (toIt c).cells = eI c := by
  unfold toIt ItX.cells
  rw [dif_pos h]
  rfl
theorem strsN_of_rowN {w : World} {v : Value} {l : List ByteArray} (h : RowN w v 1 (l.map fun s => [.string s])) : ∃ ea cap, v = .slice ea l.length cap ∧ StrsN w ea cap l := by
  obtain ⟨ea, cap, hv, h1, h2, h3⟩ := h
  rw [List.length_map] at hv h1
  refine ⟨ea, cap, hv, h1, h2, fun i s hi => ?_⟩
  obtain ⟨b, o, he, hc⟩ := h3 i [.string s] (by rw [List.getElem?_map, hi]; rfl)
  exact ⟨b, o, he, by have := hc 0 (.string s) rfl; simpa using this⟩
theorem its_of {w : World} {v : Value} {l : List ItC} (h : RowN w v 38 (l.map eI)) (hl : ∀ c ∈ l, c.1.length = 32) : ∃ ea cap, v = .slice ea l.length cap ∧ RowIs w ea l.length cap 38 ((l.map toIt).flatMap ItX.cells) := by
  have e : l.map eI = (l.map toIt).map ItX.cells := by
    rw [List.map_map]
    exact List.map_congr_left fun c hc => (cells_toIt (hl c hc)).symm
  rw [e] at h
  obtain ⟨ea, cap, hv, hI⟩ := rowIs_of_rowN h ItX.len (by decide)
  rw [List.length_map] at hv hI
  exact ⟨ea, cap, hv, hI⟩
set_option maxRecDepth 100000 in
theorem contract (H : Type) (enc : TypeId × Value → H) (W : World) (base : Nat) (args : Array Value) (ds gs : List (DataW H)) (before : List MemPlace)
    (hval : ∀ (j : Nat) t v, Tryd.f7.params[j]? = some t → args[j]? = some v → Value.okWide Tryd.prog W .any base t v)
    (hW : DataW.Whole enc Tryd.prog Tryd.f7.params.toList Rows.feedruleLaterSpec.vars false W args.toList ds gs before) (_hL : laidMetH Tryd.prog Rows.feedruleLaterRow.laid W) (hsh : W.ShapedOpen Tryd.prog) (hwt : (DataW.weightsEach Tryd.prog (Tryd.f7.params.toList ++ (OpenSpec.ofChange Rows.feedruleLaterSpec).bare.plain.varTypes Tryd.prog) (ds ++ gs)).all (· ≤ reachBytes) = true) :
    Calls Tryd.prog 7 args W fun e W' => ∃ v, e = .returned v ∧ Rows.feedruleLaterSpec.post enc Tryd.prog Tryd.f7 false true false false W args v W' := by
  have hW' := hW
  obtain ⟨p, q, hA, hV, rfl, hfz, hnd⟩ := hW
  have hp : ∀ t ∈ Tryd.f7.params.toList, Tryd.prog.readableRec t = true ∧ t < Tryd.prog.types.size := fun t ht => by simpa using List.all_eq_true.1 params t ht
  have hP : Tryd.f7.params = #[24, 59, 3, 3] := by kernel_rfl
  rw [hP] at hA hval
  obtain ⟨v0, vs0, d0, ds0, p0, q0, hargs, rfl, rfl, h0, r0⟩ := trodAll_cons hA
  obtain ⟨v1, vs1, d1, ds1, p1, q1, rfl, rfl, rfl, h1, r1⟩ := trodAll_cons r0
  obtain ⟨v2, vs2, d2, ds2, p2, q2, rfl, rfl, rfl, h2, r2⟩ := trodAll_cons r1
  obtain ⟨v3, vs3, d3, ds3, p3, q3, rfl, rfl, rfl, h3, r3⟩ := trodAll_cons r2
  obtain ⟨rfl, rfl, rfl⟩ := trodAll_nil r3
  obtain rfl : args = #[v0, v1, v2, v3] := by cases args; simp_all
  have hv0 := hval 0 24 v0 (by simp) (by simp)
  have hv1 := hval 1 59 v1 (by simp) (by simp)
  have hv2 := hval 2 3 v2 (by simp) (by simp)
  have hv3 := hval 3 3 v3 (by simp) (by simp)
  rw [hP] at hwt
  have hw0 : wt Tryd.prog 24 d0 := wt_each (j := 0) hwt rfl rfl
  have hw1 : wt Tryd.prog 59 d1 := wt_each (j := 1) hwt rfl rfl
  have hstrs : DecW enc Tryd.prog W 22 (fun c : Value × List ByteArray => [c.1]) (fun c => RowAt W c.1 1 (c.2.map fun s => [.string s]) ∧ (∀ x ∈ c.2, x.size ≤ reachBytes) ∧ c.2.length ≤ maxLen) := wdec_slice Tryd.underlying22 (by kernel_rfl : Tryd.prog.cellsOf 9 = 1) (by decide) (wdec_str Tryd.underlying9)
  have hdR := wdec_struct (W := W) (enc := enc) (t := 24) Tryd.underlying24 rfl (by kernel_rfl) (by kernel_rfl) (wdecL_cons (wdec_str Tryd.underlying9) (wdecL_cons (wdec_str Tryd.underlying9) (wdecL_cons (wdec_of fun _ => dec_int Tryd.underlying3) (wdecL_cons (wdec_of fun _ => dec_int Tryd.underlying3) (wdecL_cons hstrs wdecL_nil)))))
  have hstrN : DecW enc Tryd.prog W 22 (fun c : Value × List ByteArray => [c.1]) (fun c => RowN W c.1 1 (c.2.map fun s => [.string s]) ∧ (∀ x ∈ c.2, x.size ≤ reachBytes) ∧ c.2.length ≤ maxLen) := wdec_sliceN Tryd.underlying22 (by kernel_rfl : Tryd.prog.cellsOf 9 = 1) (by decide) (wdec_str Tryd.underlying9)
  have hdI := wdec_struct (W := W) (enc := enc) (t := 27) Tryd.underlying27 rfl (by kernel_rfl) (by kernel_rfl) (wdecL_cons (wdec_of fun _ => dec_bytes (n := 32) Tryd.underlying25 Tryd.underlying5 (by kernel_rfl) (by kernel_rfl)) (wdecL_cons hstrN (wdecL_cons (wdec_str Tryd.underlying9) (wdecL_cons (wdec_of fun _ => dec_int Tryd.underlying3) (wdecL_cons (wdec_of fun _ => dec_bool Tryd.underlying4) (wdecL_cons (wdec_str Tryd.underlying9) (wdecL_cons (wdec_of fun _ => dec_int Tryd.underlying3) wdecL_nil)))))))
  have hdL := wdec_sliceN (t := 59) Tryd.underlying59 (by kernel_rfl : Tryd.prog.cellsOf 27 = 38) (by decide) hdI
  obtain ⟨⟨nb, pats, mb, dl, ⟨dv, dists⟩, ⟨⟩⟩, ⟨hnb, hps, hmb, hdl, ⟨hdr, hds, hdn⟩, _⟩, rfl⟩ := warg_struct Tryd.underlying24 hv0 hdR h0 hw0
  obtain ⟨l, hrow, hok, hlen⟩ := warg_slice Tryd.underlying59 hv1 hdL h1 hw1
  obtain ⟨n1, rfl, -, -⟩ := arg_int Tryd.underlying3 hv2 h2
  obtain ⟨n2, rfl, -, -⟩ := arg_int Tryd.underlying3 hv3 h3
  obtain ⟨m, hm⟩ := cell_of_shapedOpen_int (g := 0) (zero := #[.int .i64 0]) (t := 3) hsh (of_decide_eq_true (by kernel_rfl)) (by kernel_rfl) rfl (by kernel_rfl) (by kernel_rfl) (by kernel_rfl)
  dsimp only at hnb hps hmb hdl hdr hds hdn hv0 hrow hlen
  have hk0 : Cell.okWide Tryd.prog W .any base 22 dv := cell_of_row (i := 4) (ts := [9, 9, 3, 3, 22]) hv0 (by kernel_rfl) (by kernel_rfl) rfl rfl
  obtain ⟨ea0, cap0, rfl, hS0, -⟩ := strs_of Tryd.underlying22 hdr hk0
  obtain ⟨ea, cap, rfl, hI⟩ := its_of hrow fun c hc => (hok c hc).1
  have hl : (l.map toIt).length = l.length := List.length_map _
  rw [← hl] at hI
  have hlaw := later_any nb pats mb dl _ dists ea cap (l.map toIt) n1 n2 m W hm (Nat.le_trans hnb (by decide)) (Nat.le_trans hps (by decide)) hS0 hdn (fun s hs => Nat.le_trans (hds s hs) (by decide)) hI (fun x hx => by
    obtain ⟨c, hc, rfl⟩ := List.mem_map.1 hx
    obtain ⟨-, ⟨hgr, hgs, hgn⟩, _, _, _, _, ha, _⟩ := hok c hc
    obtain ⟨xe, xc, h1, h2⟩ := strsN_of_rowN hgr
    exact ⟨⟨xe, xc, h1, h2, hgn⟩, fun s hs => Nat.le_trans (hgs s hs) (by decide), ha.1, ha.2⟩) (by rw [hl]; exact hlen)
  rw [hl] at hlaw
  exact hlaw.mono fun e W' h => ⟨_, h.1, law_post (tb := 4) laidOut (by kernel_rfl) (by kernel_rfl) hp (by kernel_rfl) rfl hW' h.2⟩
/-! The witness. -/
noncomputable def laidWorld (os : Os) : World := { World.holding Tryd.prog os ⟨#[], #[], []⟩ with heap := layG (layG ((World.holding Tryd.prog os ⟨#[], #[], []⟩).heap) 2 (flatD (H := Unit) Rows.laid_unicode_utf8_acceptRanges)) 1 (flatD (H := Unit) Rows.laid_unicode_utf8_first) }
theorem laid_met (os : Os) : laidMet Tryd.prog Rows.feedruleLaterRow.laid ((laidWorld os).forCall (fun _ _ => 0) ⟨#[], #[.agg #[.string ⟨#[]⟩, .string ⟨#[]⟩, .int .i64 0, .int .i64 0, .slice none 0 0], .slice none 0 0, .int .i64 0, .int .i64 0], []⟩).memory :=
  laidMet_of_run' 8 (by kernel_rfl) (by kernel_rfl)
theorem reads (os : Os) {H : Type} (enc : TypeId × Value → H) : ∃ places, DataW.whole enc Tryd.prog ((laidWorld os).forCall (fun _ _ => 0) ⟨#[], #[.agg #[.string ⟨#[]⟩, .string ⟨#[]⟩, .int .i64 0, .int .i64 0, .slice none 0 0], .slice none 0 0, .int .i64 0, .int .i64 0], []⟩).memory Tryd.f7.params.toList Rows.feedruleLaterSpec.vars false #[.agg #[.string ⟨#[]⟩, .string ⟨#[]⟩, .int .i64 0, .int .i64 0, .slice none 0 0], .slice none 0 0, .int .i64 0, .int .i64 0].toList 8 = some ([.agg [.lit (.string []), .lit (.string []), .lit (.int .i64 0), .lit (.int .i64 0), .nil], .nil, .lit (.int .i64 0), .lit (.int .i64 0)], [], places) :=
  ⟨[], by kernel_rfl⟩
set_option maxRecDepth 100000 in
theorem lifted (os : Os) (started : os.Started) (H : Type) (enc : TypeId × Value → H) (F : Stop.Interp) :
    ReturnsInHanded {} Tryd.checked os 7 .any ((OpenSpec.ofChange Rows.feedruleLaterSpec).preRow enc Tryd.prog Tryd.f7 Rows.feedruleLaterRow.domain false Rows.feedruleLaterRow.laid) (((OpenSpec.ofChange Rows.feedruleLaterSpec).at F).post enc Tryd.prog Tryd.f7 false true false false) := by
  obtain ⟨places, hx⟩ := reads os enc
  refine returnsInHanded_of_row (C := Tryd.checked) (s := OpenSpec.ofChange Rows.feedruleLaterSpec) own started (by kernel_rfl) Tryd.func7
    (witness_row_at (enc := enc) (C := Tryd.checked) false (laidWorld os) #[.agg #[.string ⟨#[]⟩, .string ⟨#[]⟩, .int .i64 0, .int .i64 0, .slice none 0 0], .slice none 0 0, .int .i64 0, .int .i64 0] rfl (by kernel_rfl) (by kernel_rfl) (by kernel_rfl)
      (OpenSpec.preRow_of_cond 8 hx (by kernel_rfl) (fun k hk => by cases hk) (by kernel_rfl) (laid_met os))) ?_
  intro W base args ds gs before hval hW _ hcond hwt hL hsh _
  exact contract H enc W base args ds gs before hval hW hL hsh hwt
theorem said : Rows.FeedruleLaterSaid :=
  OpenClaim.holds_of_cond 7 Tryd.f7 rfl rfl rfl rfl rfl rfl rfl ⟨rfl, rfl, rfl, rfl, rfl⟩ rfl rfl rfl rfl rfl (by kernel_rfl) Tryd.func7 (by kernel_rfl)
    (of_decide_eq_true (by kernel_rfl)) (by unfold Func.isWrapper; first | (rw [if_pos (by decide +kernel)]; kernel_rfl) | (rw [if_neg (by decide +kernel)]; exact ⟨rfl, rfl⟩))
    (fun os started H enc _ F => by rw [OpenClaim.pre_eq_preRow]; exact lifted os started H enc F)
/-- No parameter wants a stand-in; the program's own looks are off. -/
theorem plain (f : FuncId) (fn : Func) (hf : Tryd.pinned.checked.prog.funcNamed "bulletin/bulletinlaw37.FeedruleLater" = some f) (hfn : Tryd.pinned.checked.prog.funcs[f]? = some fn) :
    false = Tryd.pinned.checked.prog.looks [] ∧ ∀ (j : Nat) t, fn.params[j]? = some t → Tryd.pinned.checked.prog.wantsStandIn t = false := by
  obtain rfl : f = 7 := Option.some.inj ((show Tryd.prog.funcNamed "bulletin/bulletinlaw37.FeedruleLater" = some 7 by kernel_rfl).symm.trans hf) |>.symm
  obtain rfl : fn = Tryd.f7 := (Option.some.inj (Tryd.func7.symm.trans hfn)).symm
  refine ⟨by kernel_rfl, fun j t ht => ?_⟩
  have key : (Tryd.f7.params.toList.all fun t => !Tryd.prog.wantsStandIn t) = true := by kernel_rfl
  have := List.all_eq_true.1 key t (by simpa using Array.mem_of_getElem? ht)
  show Tryd.prog.wantsStandIn t = false
  simpa using this
theorem card : Rows.FeedruleLaterCardSaid :=
  Claim7.holds_tied_plain_at .later [] _ _ _ _ said (fun _ h => by cases h) (by kernel_rfl) (fun _ h => by cases h) feedruleLater_row_tie rfl ⟨rfl, rfl⟩ (by kernel_rfl) rfl plain (by kernel_rfl)

end Go.Proofs.YtddiecdoaggaaaaDoor.Later
