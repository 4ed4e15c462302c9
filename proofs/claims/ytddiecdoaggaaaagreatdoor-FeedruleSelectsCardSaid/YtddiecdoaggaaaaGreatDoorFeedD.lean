/- The walks of the conditions, of Reason and of Due. -/
import Derived.Test.YtddiecdoaggaaaaGreatDoorFeedC
import Derived.Test.YtddiecdoaggaaaaGreatDoorWildS
import Derived.Test.YtddiecdoaggaaaaGreatDoorWalk
namespace Go.Proofs.YtddiecdoaggaaaaGreatDoor
open Go.RowKit

/-- The cells of an item; ic: those of its identity. -/
def fitemC (ic : List Value) (gv : Value) (d : ByteArray) (n : Int) (c : Bool) (f : ByteArray) (a : Int) : List Value := ic ++ [gv, .string d, .int .i64 n, .bool c, .string f, .int .i64 a]
def c1P (nb f : ByteArray) : Bool := decide (f = nb)
def c2P (items : List (Nat × List Elem)) (c : Bool) (gs : List ByteArray) : Bool := !c && !selP items (gs.map (·.data.toList))
def c3P (mb n : Int) (c : Bool) : Bool := !c && (!decide (mb = 0) && decide (mb < n))
def c4P (dists : List ByteArray) (c : Bool) (d : ByteArray) : Bool := !c && (decide (0 < dists.length) && (!decide (d = ⟨#[]⟩) && !Lib.containsS dists d))
def firstT : List Bool → Nat → Int
  | [], _ => -1
  | b :: l, i => if b then (i : Int) else firstT l (i + 1)

set_option maxRecDepth 100000
attribute [local irreducible] K KS KLeft KRound J OV EV EU Blk wpList Code.wp bodyPost Exit.then Exit.inBlock Round Left Hid JS wpStill wpHeld Calls
attribute [local irreducible] selP Lib.containsS
section
variable {r : World} {fb pb : Nat} {nb pats : ByteArray} {mb dl : Int} {dists : List ByteArray} {items : List (Nat × List Elem)} {ic : List Value} {gv : Value} {d : ByteArray} {n : Int} {c : Bool} {f : ByteArray} {a : Int} {gs : List ByteArray}
theorem cond1_any (hF : FeedAt r fb nb pats mb dl dists items) (hp : Blk r pb [.pointer (some ⟨fb, 0, none⟩)] 29) (hi : ic.length = 32) :
    Calls Tryz.prog 59 #[.agg (fitemC ic gv d n c f a).toArray, .pointer (some ⟨pb, 0, none⟩)] r fun e w' => e = .returned (.bool (c1P nb f)) ∧ Below r.heap.size r w' := by
  obtain ⟨dv, lb, hf, hd, hL⟩ := hF
  refine k_enter (N := 13) Tryz.func59 rfl rfl rfl ?_
  refine walk ?_
  refine k_box (cs := fitemC ic gv d n c f a) rfl rfl rfl ?_
  intro ib
  refine walk ?_
  refine k_region_still (by kernel_rfl) (by kernel_rfl) ?_
  refine vwalk ?_
  refine walk ?_
  exact k_ret1 rfl rfl fun w hw => ⟨rfl, hw.below rfl⟩
theorem cond2_any (hF : FeedAt r fb nb pats mb dl dists items) (hp : Blk r pb [.pointer (some ⟨fb, 0, none⟩)] 29) (hi : ic.length = 32) (hg : StrsAt r gv gs) (hs : ∀ s ∈ gs, s.size ≤ 9223372036854775807) (hn : gs.length ≤ 2000000) :
    Calls Tryz.prog 60 #[.agg (fitemC ic gv d n c f a).toArray, .pointer (some ⟨pb, 0, none⟩)] r fun e w' => e = .returned (.bool (c2P items c gs)) ∧ Below r.heap.size r w' := by
  obtain ⟨dv, lb, hf, hd, hL⟩ := hF
  have hgv : (gv.oneCell') = true := by obtain ⟨_, _, rfl, _⟩ := hg; rfl
  refine k_enter (N := 17) Tryz.func60 rfl rfl rfl ?_
  refine walk ?_
  refine k_box (cs := fitemC ic gv d n c f a) rfl rfl rfl ?_
  intro ib
  refine walk ?_
  refine k_held 14 [0, 1, 2, 3, 4, 5, 6, 7, 8, 9, 10, 11, 12, 13] (by kernel_rfl) (by kernel_rfl) ?_
  dsimp only [pickL, nth, List.drop]
  unfold c2P
  cases c with
  | true =>
    refine hwalk ?_
    refine walk ?_
    exact k_ret1 rfl rfl fun w hw => ⟨rfl, hw.below rfl⟩
  | false =>
    refine hwalk ?_
    refine kh_callb (by kernel_rfl) rfl rfl (fun w hw => selects_any lb gv gs items w (hL.ext (hw.below rfl)) (hg.ext (hw.below rfl)) hs hn) ?_
    refine hwalk ?_
    refine walk ?_
    exact k_ret1 rfl rfl fun w hw => ⟨rfl, hw.below rfl⟩
theorem cond3_any (hF : FeedAt r fb nb pats mb dl dists items) (hp : Blk r pb [.pointer (some ⟨fb, 0, none⟩)] 29) (hi : ic.length = 32) :
    Calls Tryz.prog 62 #[.agg (fitemC ic gv d n c f a).toArray, .pointer (some ⟨pb, 0, none⟩)] r fun e w' => e = .returned (.bool (c3P mb n c)) ∧ Below r.heap.size r w' := by
  obtain ⟨dv, lb, hf, hd, hL⟩ := hF
  refine k_enter (N := 27) Tryz.func62 rfl rfl rfl ?_
  refine walk ?_
  refine k_box (cs := fitemC ic gv d n c f a) rfl rfl rfl ?_
  intro ib
  refine walk ?_
  refine k_region_still (by kernel_rfl) (by kernel_rfl) ?_
  unfold c3P
  cases c with
  | true =>
    refine vwalk ?_
    refine walk ?_
    exact k_ret1 rfl rfl fun w hw => ⟨rfl, hw.below rfl⟩
  | false =>
    by_cases h0 : mb = 0
    · refine vwalk ?_
      refine walk ?_
      exact k_ret1 rfl rfl fun w hw => ⟨by rw [decide_eq_true h0]; rfl, hw.below rfl⟩
    · refine vwalk ?_
      refine walk ?_
      exact k_ret1 rfl rfl fun w hw => ⟨by rw [decide_eq_false h0]; rfl, hw.below rfl⟩
theorem cond4_any (hF : FeedAt r fb nb pats mb dl dists items) (hp : Blk r pb [.pointer (some ⟨fb, 0, none⟩)] 29) (hi : ic.length = 32) (hdn : dists.length ≤ 2000000) :
    Calls Tryz.prog 63 #[.agg (fitemC ic gv d n c f a).toArray, .pointer (some ⟨pb, 0, none⟩)] r fun e w' => e = .returned (.bool (c4P dists c d)) ∧ Below r.heap.size r w' := by
  obtain ⟨dv, lb, hf, hd, hL⟩ := hF
  refine k_enter (N := 34) Tryz.func63 rfl rfl rfl ?_
  refine walk ?_
  refine k_box (cs := fitemC ic gv d n c f a) rfl rfl rfl ?_
  intro ib
  refine walk ?_
  refine k_held 31 [0, 1, 2, 3, 4, 5, 6, 7, 8, 9, 10, 11, 12, 13, 14, 15, 16, 17, 18, 19, 20, 21, 22, 23, 24, 25, 26, 27, 28, 29, 30] (by kernel_rfl) (by kernel_rfl) ?_
  dsimp only [pickL, nth, List.drop]
  unfold c4P
  obtain ⟨ea, cap, rfl, hdd⟩ : ∃ ea cap, dv = .slice ea dists.length cap ∧ StrsAt r dv dists := by obtain ⟨ea, cap, h, h'⟩ := hd; exact ⟨ea, cap, h, ea, cap, h, h'⟩
  cases c with
  | true =>
    refine hwalk ?_
    refine walk ?_
    exact k_ret1 rfl rfl fun w hw => ⟨rfl, hw.below rfl⟩
  | false =>
    by_cases h0 : 0 < dists.length
    · by_cases h1 : d = ⟨#[]⟩
      · refine hwalk ?_
        refine walk ?_
        exact k_ret1 rfl rfl fun w hw => ⟨by rw [decide_eq_true h0, decide_eq_true h1]; rfl, hw.below rfl⟩
      · refine hwalk ?_
        refine kh_callb (by kernel_rfl) rfl rfl (fun w hw => (contains_any _ dists d w (hdd.ext (hw.below rfl)) hdn).mono fun e w' h => ⟨h.1, h.2 ▸ Below.refl _ _⟩) ?_
        refine hwalk ?_
        refine walk ?_
        exact k_ret1 rfl rfl fun w hw => ⟨by rw [decide_eq_true h0, decide_eq_false h1]; rfl, hw.below rfl⟩
    · refine hwalk ?_
      refine walk ?_
      exact k_ret1 rfl rfl fun w hw => ⟨by rw [decide_eq_false h0]; rfl, hw.below rfl⟩
end

/-- What makes a condition: it is called on an item and answers p. -/
theorem reason1_any {r : World} {fn : FuncId} {cv : Value} {cs : List Value} {ib : Nat} {p : Bool} (hc : callable Tryz.prog fn = true) (hb : Blk r ib cs 55) (hl : cs.length = 38)
    (hf : ∀ w, Below r.heap.size r w → Calls Tryz.prog fn #[.agg cs.toArray, cv] w fun e w' => e = .returned (.bool p) ∧ Below w.heap.size w w') :
    Calls Tryz.prog 42 #[.func (.func fn) #[] #[cv], .pointer (some ⟨ib, 0, none⟩)] r fun e w' => e = .returned (.bool p) ∧ Below r.heap.size r w' := by
  refine k_enter (N := 7) Tryz.func42 rfl rfl rfl ?_
  refine walk ?_
  refine k_callvb hc rfl (fun w hw => hf w (hw.below rfl)) rfl rfl (by rfl) ?_
  refine walk ?_
  exact k_ret1 rfl rfl fun w hw => ⟨rfl, hw.below rfl⟩
theorem indexFunc_any {r : World} {sb ib cap : Nat} {t : TypeId} (fs : List Value) (ps : List Bool) (hb : Blk r sb fs t) (hl : ps.length = fs.length) (hs : fs.length ≤ 2000000)
    (hf : ∀ (i : Nat) (v : Value) (p : Bool), fs[i]? = some v → ps[i]? = some p → ∀ w, Below r.heap.size r w → Calls Tryz.prog 42 #[v, .pointer (some ⟨ib, 0, none⟩)] w fun e w' => e = .returned (.bool p) ∧ Below w.heap.size w w') :
    Calls Tryz.prog 40 #[.slice (some ⟨sb, 0, none⟩) fs.length cap, .func (.func 42) #[] #[.pointer (some ⟨ib, 0, none⟩)]] r fun e w' => e = .returned (.int .i64 (firstT ps 0)) ∧ Below r.heap.size r w' := by
  refine k_enter (N := 19) Tryz.func40 rfl rfl rfl ?_
  refine walk ?_
  refine k_loop (σ := Nat) (fun k => [(0, .slice (some ⟨sb, 0, none⟩) fs.length cap), (1, .func (.func 42) #[] #[.pointer (some ⟨ib, 0, none⟩)]), (7, .int .i64 fs.length), (8, .int .i64 k)]) (fun _ => []) (fun k => k ≤ fs.length ∧ firstT (ps.drop k) k = firstT ps 0) (fun k => fs.length - k) 0 (by repeat (first | exact Sub.nil | refine Sub.cons rfl ?_)) (by repeat (first | exact SubO.nil | refine SubO.keep ?_ | refine SubO.drop rfl ?_)) ⟨Nat.zero_le _, rfl⟩ ?_
  rintro k ⟨hk, hC⟩
  by_cases hlt : k < fs.length
  · have hv : fs[k]? = some fs[k] := by simp [hlt]
    have hp : ps[k]? = some (ps[k]'(by omega)) := by simp [hl, hlt]
    rw [List.drop_eq_getElem_cons (by omega), firstT] at hC
    generalize fs[k] = v at hv
    generalize (ps[k]'(by omega)) = p at hp hC
    refine walk ?_
    refine k_eldB rfl rfl rfl hb (by simpa using hv) ?_
    refine walk ?_
    refine k_callvb (by kernel_rfl) rfl (fun w hw => hf k v p hv hp w (hw.below rfl)) rfl rfl (by rfl) ?_
    cases p with
    | true =>
      refine walk ?_
      exact k_ret1 rfl rfl fun w hw => ⟨by rw [← hC]; rfl, hw.below rfl⟩
    | false =>
      refine walk ?_
      exact k_round (k + 1) (by repeat (first | exact Sub.nil | refine Sub.cons rfl ?_)) (by repeat (first | exact SubO.nil | refine SubO.keep ?_ | refine SubO.drop rfl ?_)) ⟨by omega, by rw [← hC]; rfl⟩ (by omega)
  · refine walk ?_
    rw [List.drop_eq_nil_of_le (by omega), firstT] at hC
    exact k_ret1 rfl rfl fun w hw => ⟨by rw [← hC], hw.below rfl⟩

/-- Why an item is not passed. -/
def reasonP (nb : ByteArray) (mb : Int) (dists : List ByteArray) (items : List (Nat × List Elem)) (gs : List ByteArray) (d : ByteArray) (n : Int) (c : Bool) (f : ByteArray) : Int :=
  1 + firstT [c1P nb f, c2P items c gs, c3P mb n c, c4P dists c d] 0
theorem firstT_bd : ∀ (l : List Bool) (i : Nat), -1 ≤ firstT l i ∧ firstT l i ≤ i + l.length
  | [], i => by simp [firstT]
  | b :: l, i => by
    have := firstT_bd l (i + 1)
    unfold firstT
    split
    · simp; omega
    · simp at this ⊢; omega
theorem conditions_any {r : World} {v : Value} : Calls Tryz.prog 41 #[v] r fun e w' => ∃ sb pb, e = .returned (.slice (some ⟨sb, 0, none⟩) 4 4) ∧ Blk w' pb v.cells.toList 29 ∧ Blk w' sb [.func (.func 59) #[] #[.pointer (some ⟨pb, 0, none⟩)], .func (.func 60) #[] #[.pointer (some ⟨pb, 0, none⟩)], .func (.func 62) #[] #[.pointer (some ⟨pb, 0, none⟩)], .func (.func 63) #[] #[.pointer (some ⟨pb, 0, none⟩)]] 105 ∧ Below r.heap.size r w' := by
  refine k_enter (N := 8) Tryz.func41 rfl rfl rfl ?_
  refine walk ?_
  refine k_box (cs := v.cells.toList) rfl rfl rfl ?_
  intro pb
  refine walk ?_
  refine k_lit rfl rfl rfl rfl rfl rfl rfl ?_
  intro sb
  refine walk ?_
  exact k_ret1 rfl rfl fun w hw => ⟨sb, pb, rfl, hw.blk 1 rfl, hw.blk 0 rfl, hw.below rfl⟩
section
variable {r : World} {fb : Nat} {nb pats : ByteArray} {mb dl : Int} {dists : List ByteArray} {items : List (Nat × List Elem)} {ic : List Value} {gv : Value} {d : ByteArray} {n : Int} {c : Bool} {f : ByteArray} {a : Int} {gs : List ByteArray}
theorem reason_any (hF : FeedAt r fb nb pats mb dl dists items) (hi : ic.length = 32) (hg : StrsAt r gv gs) (hs : ∀ s ∈ gs, s.size ≤ 9223372036854775807) (hn : gs.length ≤ 2000000) (hdn : dists.length ≤ 2000000) :
    Calls Tryz.prog 17 #[.pointer (some ⟨fb, 0, none⟩), .agg (fitemC ic gv d n c f a).toArray] r fun e w' => e = .returned (.int .i64 (reasonP nb mb dists items gs d n c f)) ∧ Below r.heap.size r w' := by
  have hgv : gv.oneCell' = true := by obtain ⟨_, _, rfl, _⟩ := hg; rfl
  refine k_enter (N := 12) Tryz.func17 rfl rfl rfl ?_
  refine walk ?_
  refine k_box (cs := fitemC ic gv d n c f a) rfl rfl rfl ?_
  intro ib
  refine walk ?_
  refine k_call (by kernel_rfl) rfl rfl (fun w _ => conditions_any) ?_
  rintro w e w1 hw ⟨sb, pb, rfl, hp, hsb, hx⟩
  refine ⟨_, rfl, ?_⟩
  have hB := (hw.ext hx).below rfl
  have hib := (hw.ext hx).blk 0 rfl
  have hF1 := hF.ext hB
  have hg1 := hg.ext hB
  have hbd := firstT_bd [c1P nb f, c2P items c gs, c3P mb n c, c4P dists c d] 0
  simp only [List.length_cons, List.length_nil] at hbd
  refine j_of_k (Sat.refl w1) ?_
  refine walk ?_
  refine k_callb (by kernel_rfl) rfl rfl (fun w hw => indexFunc_any (ib := ib) [.func (.func 59) #[] #[.pointer (some ⟨pb, 0, none⟩)], .func (.func 60) #[] #[.pointer (some ⟨pb, 0, none⟩)], .func (.func 62) #[] #[.pointer (some ⟨pb, 0, none⟩)], .func (.func 63) #[] #[.pointer (some ⟨pb, 0, none⟩)]] [c1P nb f, c2P items c gs, c3P mb n c, c4P dists c d] (hsb.ext (hw.below rfl)) rfl (by simp) ?_) ?_
  · have hB2 := hw.below rfl
    intro i v p hv hp' w' hw'
    have hB3 := hB2.trans (hw'.mono hB2.size)
    have hib3 := hib.ext hB3
    have hl : (fitemC ic gv d n c f a).length = 38 := by simp [fitemC, hi]
    match i, hv, hp' with
    | 0, hv, hp' =>
      cases hv; cases hp'
      exact reason1_any (by kernel_rfl) hib3 hl fun w2 hw2 => cond1_any (hF1.ext (hB3.trans (hw2.mono hB3.size))) (hp.ext (hB3.trans (hw2.mono hB3.size))) hi
    | 1, hv, hp' =>
      cases hv; cases hp'
      exact reason1_any (by kernel_rfl) hib3 hl fun w2 hw2 => cond2_any (hF1.ext (hB3.trans (hw2.mono hB3.size))) (hp.ext (hB3.trans (hw2.mono hB3.size))) hi (hg1.ext (hB3.trans (hw2.mono hB3.size))) hs hn
    | 2, hv, hp' =>
      cases hv; cases hp'
      exact reason1_any (by kernel_rfl) hib3 hl fun w2 hw2 => cond3_any (hF1.ext (hB3.trans (hw2.mono hB3.size))) (hp.ext (hB3.trans (hw2.mono hB3.size))) hi
    | 3, hv, hp' =>
      cases hv; cases hp'
      exact reason1_any (by kernel_rfl) hib3 hl fun w2 hw2 => cond4_any (hF1.ext (hB3.trans (hw2.mono hB3.size))) (hp.ext (hB3.trans (hw2.mono hB3.size))) hi hdn
    | k + 4, hv, _ => cases hv
  · refine walk ?_
    exact k_ret1 rfl rfl fun w hw => ⟨rfl, hB.trans ((hw.below rfl).mono hB.size)⟩
/-- When an item is due. -/
def dueP (dl a : Int) : Int := if 9223372036854775807 - dl < a then 9223372036854775807 else a + dl
theorem due_any (hF : FeedAt r fb nb pats mb dl dists items) (hi : ic.length = 32) (hg : StrsAt r gv gs) (hs : ∀ s ∈ gs, s.size ≤ 9223372036854775807) (hn : gs.length ≤ 2000000) (hdn : dists.length ≤ 2000000) (hdl : 0 ≤ dl ∧ dl ≤ 20160) (ha : -9223372036854775808 ≤ a) (ha' : a ≤ 9223372036854775807) :
    Calls Tryz.prog 14 #[.pointer (some ⟨fb, 0, none⟩), .agg (fitemC ic gv d n c f a).toArray] r fun e w' => e = .returned (.tuple #[.int .i64 (if reasonP nb mb dists items gs d n c f = 0 then dueP dl a else 0), .bool (decide (reasonP nb mb dists items gs d n c f = 0))]) ∧ Below r.heap.size r w' := by
  have hgv : gv.oneCell' = true := by obtain ⟨_, _, rfl, _⟩ := hg; rfl
  have hl : (fitemC ic gv d n c f a).length = 38 := by simp [fitemC, hi]
  refine k_enter (N := 29) Tryz.func14 rfl rfl rfl ?_
  refine walk ?_
  refine k_box (cs := fitemC ic gv d n c f a) rfl rfl rfl ?_
  intro ib
  refine walk ?_
  refine k_callb (by kernel_rfl) rfl rfl (fun w hw => reason_any (hF.ext (hw.below rfl)) hi (hg.ext (hw.below rfl)) hs hn hdn) ?_
  obtain ⟨dv, lb, hf, -, -⟩ := hF
  by_cases h0 : reasonP nb mb dists items gs d n c f = 0
  · rw [if_pos h0, decide_eq_true h0]
    generalize reasonP nb mb dists items gs d n c f = rr at h0
    refine walk ?_
    refine k_region_still (by kernel_rfl) (by kernel_rfl) ?_
    unfold dueP
    by_cases h1 : 9223372036854775807 - dl < a
    · refine vwalk ?_
      refine walk ?_
      exact k_ret2 rfl rfl rfl fun w hw => ⟨by rw [if_pos h1], hw.below rfl⟩
    · refine vwalk ?_
      refine walk ?_
      refine k_region_still (by kernel_rfl) (by kernel_rfl) ?_
      refine vwalk ?_
      refine walk ?_
      exact k_ret2 rfl rfl rfl fun w hw => ⟨by rw [if_neg h1], hw.below rfl⟩
  · rw [if_neg h0, decide_eq_false h0]
    generalize reasonP nb mb dists items gs d n c f = rr at h0
    refine walk ?_
    exact k_ret2 rfl rfl rfl fun w hw => ⟨rfl, hw.below rfl⟩
end
end Go.Proofs.YtddiecdoaggaaaaGreatDoor
