/- GroupnameFormatList answers true for every list of strings: the statement is proved as its card says. -/
import Derived.Test.YtdolgoplflpbgaaGreatDoorGrpG
import Derived.Test.YtdolgoplflpbgaaGreatDoorTopW
namespace Go.Proofs.YtdolgoplflpbgaaGreatDoor.FormatLaw
open Go.ChangeShapes Go.WideShapes Go.ChangeAt Go.RowKit

theorem own : ownKnob Tryz.prog.godebug = none := by kernel_rfl
theorem laidOut : laidOutB Tryz.prog = true := by kernel_rfl
theorem params : Tryz.f8.params.toList.all (fun t => Tryz.prog.readableRec t && decide (t < Tryz.prog.types.size)) = true := by kernel_rfl
/-- A slice of strings within an argument. -/
theorem strs_of {P : Program} {W : World} {base : Nat} {v : Value} {l : List ByteArray} {t e : TypeId} (ht : P.underlying t = some (.slice e)) (hr : RowAt W v 1 (l.map fun s => [.string s])) (hk : Cell.okWide P W .any base t v) : ∃ ea cap, v = .slice ea l.length cap ∧ StrsAt W (.slice ea l.length cap) l ∧ (ea = none → cap = 0) := by
  obtain ⟨ea, cap, rfl, hc⟩ := hr
  rw [List.length_map] at hk ⊢
  simp only [Cell.okWide, ht] at hk
  have hcells : ∀ i s, l[i]? = some s → ∃ b o, ea = some ⟨b, o, none⟩ ∧ W.cell? ⟨b, o + i, none⟩ = some (.string s) := fun i s hi => by
    obtain ⟨b, o, h1, h2⟩ := hc i [.string s] (by rw [List.getElem?_map, hi]; rfl)
    refine ⟨b, o, h1, ?_⟩
    have := h2 0 (.string s) rfl
    simpa using this
  cases ea with
  | none =>
    have h0 : l.length = 0 ∧ cap = 0 := by
      unfold Cell.ok at hk
      rw [ht] at hk
      split at hk <;> simp_all
    obtain ⟨h0, rfl⟩ := h0
    exact ⟨none, 0, rfl, ⟨none, 0, rfl, ⟨by omega, fun a ha => by cases ha⟩, hcells⟩, fun _ => rfl⟩
  | some a =>
    have h1 : l.length ≤ cap ∧ a.block < W.heap.size := by
      unfold Cell.ok at hk
      rw [ht] at hk
      simp only [World.has] at hk
      obtain ⟨h1, _, _, _, row, cells, hs, _⟩ := hk
      refine ⟨h1, ?_⟩
      unfold World.shape? at hs
      cases hh : W.heap[a.block]? with
      | none => rw [hh] at hs; cases hs
      | some x => exact (Array.getElem?_eq_some_iff.1 hh).1
    exact ⟨some a, cap, rfl, ⟨some a, cap, rfl, ⟨h1.1, fun a' ha => by cases ha; exact h1.2⟩, hcells⟩, fun h => by cases h⟩
set_option maxRecDepth 100000 in
theorem contract (H : Type) (enc : TypeId × Value → H) (W : World) (base : Nat) (args : Array Value) (ds gs : List (DataW H)) (before : List MemPlace)
    (hval : ∀ (j : Nat) t v, Tryz.f8.params[j]? = some t → args[j]? = some v → Value.okWide Tryz.prog W .any base t v)
    (hW : DataW.Whole enc Tryz.prog Tryz.f8.params.toList Rows.groupnameFormatListSpec.vars false W args.toList ds gs before) (_hL : laidMetH Tryz.prog Rows.groupnameFormatListRow.laid W) (hsh : W.ShapedOpen Tryz.prog) (hwt : (DataW.weightsEach Tryz.prog (Tryz.f8.params.toList ++ (OpenSpec.ofChange Rows.groupnameFormatListSpec).bare.plain.varTypes Tryz.prog) (ds ++ gs)).all (· ≤ reachBytes) = true) :
    Calls Tryz.prog 8 args W fun e W' => ∃ v, e = .returned v ∧ Rows.groupnameFormatListSpec.post enc Tryz.prog Tryz.f8 false true false false W args v W' := by
  have hW' := hW
  obtain ⟨p, q, hA, hV, rfl, hfz, hnd⟩ := hW
  have hp : ∀ t ∈ Tryz.f8.params.toList, Tryz.prog.readableRec t = true ∧ t < Tryz.prog.types.size := fun t ht => by simpa using List.all_eq_true.1 params t ht
  have hP : Tryz.f8.params = #[22] := by kernel_rfl
  rw [hP] at hA hval hwt
  obtain ⟨v0, vs0, d0, ds0, p0, q0, hargs, rfl, rfl, h0, r0⟩ := trodAll_cons hA
  obtain ⟨rfl, rfl, rfl⟩ := trodAll_nil r0
  obtain rfl : args = #[v0] := by cases args; simp_all
  have hk0 := hval 0 22 v0 (by simp) (by simp)
  have hw0 : wt Tryz.prog 22 d0 := wt_each (j := 0) hwt rfl rfl
  have hdS0 : DecW enc Tryz.prog W 22 (fun c : Value × List ByteArray => [c.1]) (fun c => RowAt W c.1 1 (c.2.map fun s => [.string s]) ∧ (∀ x ∈ c.2, x.size ≤ reachBytes) ∧ c.2.length ≤ maxLen) := wdec_slice Tryz.underlying22 (by kernel_rfl : Tryz.prog.cellsOf 9 = 1) (by decide) (wdec_str Tryz.underlying9)
  obtain ⟨l0, hr0, hl0, hn0⟩ := warg_slice Tryz.underlying22 hk0 hdS0 h0 hw0
  dsimp only at hr0 hl0 hn0
  obtain ⟨ea0, cap0, rfl, hS0, hz0⟩ := strs_of Tryz.underlying22 hr0 (by have h := hk0; unfold Value.okWide at h; rw [Tryz.underlying22] at h; exact h)
  obtain ⟨m, hm⟩ := cell_of_shapedOpen_int (g := 0) (zero := #[.int .i64 0]) (t := 3) hsh (of_decide_eq_true (by kernel_rfl)) (by kernel_rfl) rfl (by kernel_rfl) (by kernel_rfl) (by kernel_rfl)
  exact (lawFormat_any _ l0 m W hS0 hn0 hm).mono fun e W' h => ⟨_, h.1, law_post (tb := 4) laidOut (by kernel_rfl) (by kernel_rfl) hp (by kernel_rfl) rfl hW' h.2⟩
/-! The witness. -/
noncomputable def laidWorld (os : Os) : World := { World.holding Tryz.prog os ⟨#[], #[], []⟩ with heap := layG (layG ((World.holding Tryz.prog os ⟨#[], #[], []⟩).heap) 2 (flatD (H := Unit) Rows.laid_unicode_utf8_acceptRanges)) 1 (flatD (H := Unit) Rows.laid_unicode_utf8_first) }
theorem laid_met (os : Os) : laidMet Tryz.prog Rows.groupnameFormatListRow.laid ((laidWorld os).forCall (fun _ _ => 0) ⟨#[], #[.slice none 0 0], []⟩).memory :=
  laidMet_of_run' 8 (by kernel_rfl) (by kernel_rfl)
theorem reads (os : Os) {H : Type} (enc : TypeId × Value → H) : ∃ places, DataW.whole enc Tryz.prog ((laidWorld os).forCall (fun _ _ => 0) ⟨#[], #[.slice none 0 0], []⟩).memory Tryz.f8.params.toList Rows.groupnameFormatListSpec.vars false #[.slice none 0 0].toList 8 = some ([.nil], [], places) :=
  ⟨[], by kernel_rfl⟩
set_option maxRecDepth 100000 in
theorem lifted (os : Os) (started : os.Started) (H : Type) (enc : TypeId × Value → H) (F : Stop.Interp) :
    ReturnsInHanded {} Tryz.checked os 8 .any ((OpenSpec.ofChange Rows.groupnameFormatListSpec).preRow enc Tryz.prog Tryz.f8 Rows.groupnameFormatListRow.domain false Rows.groupnameFormatListRow.laid) (((OpenSpec.ofChange Rows.groupnameFormatListSpec).at F).post enc Tryz.prog Tryz.f8 false true false false) := by
  obtain ⟨places, hx⟩ := reads os enc
  refine returnsInHanded_of_row (C := Tryz.checked) (s := OpenSpec.ofChange Rows.groupnameFormatListSpec) own started (by kernel_rfl) Tryz.func8
    (witness_row_at (enc := enc) (C := Tryz.checked) false (laidWorld os) #[.slice none 0 0] rfl (by kernel_rfl) (by kernel_rfl) (by kernel_rfl)
      (OpenSpec.preRow_of_cond 8 hx (by kernel_rfl) (fun k hk => by cases hk) (by kernel_rfl) (laid_met os))) ?_
  intro W base args ds gs before hval hW _ hcond hwt hL hsh _
  exact contract H enc W base args ds gs before hval hW hL hsh hwt
theorem said : Rows.GroupnameFormatListSaid :=
  OpenClaim.holds_of_cond 8 Tryz.f8 rfl rfl rfl rfl rfl rfl rfl ⟨rfl, rfl, rfl, rfl, rfl⟩ rfl rfl rfl rfl rfl (by kernel_rfl) Tryz.func8 (by kernel_rfl)
    (of_decide_eq_true (by kernel_rfl)) (by unfold Func.isWrapper; first | (rw [if_pos (by decide +kernel)]; kernel_rfl) | (rw [if_neg (by decide +kernel)]; exact ⟨rfl, rfl⟩))
    (fun os started H enc _ F => by rw [OpenClaim.pre_eq_preRow]; exact lifted os started H enc F)
/-- No parameter wants a stand-in; the program's own looks are off. -/
theorem plain (f : FuncId) (fn : Func) (hf : Tryz.pinned.checked.prog.funcNamed "bulletin/bulletinlaw12.GroupnameFormatList" = some f) (hfn : Tryz.pinned.checked.prog.funcs[f]? = some fn) :
    false = Tryz.pinned.checked.prog.looks [] ∧ ∀ (j : Nat) t, fn.params[j]? = some t → Tryz.pinned.checked.prog.wantsStandIn t = false := by
  obtain rfl : f = 8 := Option.some.inj ((show Tryz.prog.funcNamed "bulletin/bulletinlaw12.GroupnameFormatList" = some 8 by kernel_rfl).symm.trans hf) |>.symm
  obtain rfl : fn = Tryz.f8 := (Option.some.inj (Tryz.func8.symm.trans hfn)).symm
  refine ⟨by kernel_rfl, fun j t ht => ?_⟩
  have key : (Tryz.f8.params.toList.all fun t => !Tryz.prog.wantsStandIn t) = true := by kernel_rfl
  have := List.all_eq_true.1 key t (by simpa using Array.mem_of_getElem? ht)
  show Tryz.prog.wantsStandIn t = false
  simpa using this
theorem card : Rows.GroupnameFormatListCardSaid :=
  Claim7.holds_tied_plain_at .later [] _ _ _ _ said (fun _ h => by cases h) (by kernel_rfl) (fun _ h => by cases h) groupnameFormatList_row_tie rfl ⟨rfl, rfl⟩ (by kernel_rfl) rfl plain (by kernel_rfl)

end Go.Proofs.YtdolgoplflpbgaaGreatDoor.FormatLaw
