/- The engine in regions that draw their order: a tree of the orders that may come. No program. -/
import Derived.Test.YtddiecdoaggaaaaDoorKG
namespace Go.Proofs.YtddiecdoaggaaaaDoor
open Go.RowKit

/-- The orders in which a region's head may come: one operation next, or one of two. -/
inductive Tr where
  | nil : Tr
  | one (k : Nat) (t : Tr) : Tr
  | two (i : Nat) (t : Tr) (j : Nat) (u : Tr) : Tr
def cntT : Tr → Nat
  | .nil => 0
  | .one _ t => cntT t + 1
  | .two _ t _ _ => cntT t + 1
section
variable {P : Program} {md : Region.Mode} {S : World → Prop} {Q : Exit → Act → World → Prop}
def wpT (P : Program) (l : List Oper) (S : World → Prop) (F : Act → World → Prop) : Tr → Act → World → Prop
  | .nil, a, w => F a w
  | .one k t, a, w => bif stillOp (nth l k).op then ∃ v, YieldsIf P l.toArray S (nth l k) v a ∧ wpT P l S F t (a.put (nth l k).dst v) w
      else wpList P l.toArray (OnlyN fun a' w' => S w' ∧ wpT P l S F t a' w') [nth l k] a w
  | .two i t j u, a, w => wpList P l.toArray (OnlyN fun a' w' => S w' ∧ wpT P l S F t a' w') [nth l i] a w ∧ wpList P l.toArray (OnlyN fun a' w' => S w' ∧ wpT P l S F u a' w') [nth l j] a w
def headT (md : Region.Mode) (ops : Array Oper) (n : Nat) : Tr → Array Bool → Bool
  | .nil, listed => Region.seqB md ops (ops.size - n) n listed
  | .one k t, listed => Nat.blt k n && (match ops[k]? with
      | some o => bif stillOp o.op then (Region.ready md ops listed).contains k && Region.free md ops listed k else decide (Region.ready md ops listed = [k])
      | none => false) && headT md ops n t (listed.setIfInBounds k true)
  | .two i t j u, listed => !(Region.ready md ops listed).isEmpty && (Region.ready md ops listed).all (fun x => Nat.beq x i || Nat.beq x j) && (Nat.blt i n && (ops[i]?).isSome && headT md ops n t (listed.setIfInBounds i true)) && (Nat.blt j n && (ops[j]?).isSome && headT md ops n u (listed.setIfInBounds j true)) && Nat.beq (cntT u) (cntT t)
theorem hl_T {l : List Oper} {n : Nat} {F : Act → World → Prop} (hsel : Region.noSelect l.toArray = true) (hn : tailB md l.toArray n = true) :
    ∀ (t : Tr) (listed : Array Bool) (a : Act) (w : World), HeadInv md l.toArray n listed → headT md l.toArray n t listed = true → S w → wpT P l S F t a w →
    wpHL P md l.toArray S n (fun listed' a' w' => Region.seqB md l.toArray (l.toArray.size - n) n listed' = true ∧ F a' w') (cntT t) listed a w := by
  intro t
  induction t with
  | nil => intro listed a w inv hB hS h; exact ⟨hB, h⟩
  | one k t ih =>
    intro listed a w inv hB hS h
    simp only [headT, Bool.and_eq_true] at hB
    obtain ⟨⟨hk, hm⟩, hB'⟩ := hB
    have hkn : k < n := by simpa [Nat.blt_eq] using hk
    cases ho : l.toArray[k]? with
    | none => simp only [ho] at hm; cases hm
    | some o =>
      have hnth := nth_eq l k o (by simpa using ho)
      simp only [ho] at hm
      simp only [wpT, hnth] at h
      show wpHL P md l.toArray S n _ (cntT t + 1) listed a w
      cases hst : stillOp o.op with
      | true =>
        rw [hst] at hm h
        simp only [cond_true, Bool.and_eq_true] at hm h
        obtain ⟨v, hy, hK⟩ := h
        have hr : k ∈ Region.ready md l.toArray listed := by simpa using hm.1
        have := ih (listed.setIfInBounds k true) (a.put o.dst v) w (inv.set hr hkn) hB' hS hK
        exact hl_first ho (Region.noSelect_spec hsel) hn hkn (fun listed' a' w' hL => seqB_ready hL.1) (cntT t) listed a w inv (Region.free_spec ho hm.2) hr hy hS this
      | false =>
        rw [hst] at hm h
        simp only [cond_false, decide_eq_true_eq] at hm h
        refine ⟨by rw [hm]; simp, fun i hi => ?_⟩
        have hr : k ∈ Region.ready md l.toArray listed := by rw [hm]; simp
        rw [hm] at hi
        have hik : i = k := by simpa using hi
        subst hik
        refine ⟨hkn, ?_⟩
        have key : ∀ a' w', S w' ∧ wpT P l S F t a' w' → S w' ∧ wpHL P md l.toArray S n (fun listed' a' w' => Region.seqB md l.toArray (l.toArray.size - n) n listed' = true ∧ F a' w') (cntT t) (listed.setIfInBounds i true) a' w' := fun a' w' h' =>
          ⟨h'.1, ih _ a' w' (inv.set hr hkn) hB' h'.1 h'.2⟩
        unfold wpOp
        simp only [ho]
        unfold wpList at h
        split
        · rename_i hw
          rw [if_pos hw] at h
          rcases h with h | ⟨_, h⟩
          · exact .inl (Oper.wp_mono (fun a' w' h' => key a' w' h') (wp_onlyN h))
          · exact absurd h lets_onlyN
        · rename_i hw
          rw [if_neg hw] at h
          exact key _ _ h
  | two i t j u ih1 ih2 =>
    intro listed a w inv hB hS h
    simp only [headT, Bool.and_eq_true, List.all_eq_true, Bool.or_eq_true] at hB
    obtain ⟨⟨⟨⟨h1, h2⟩, ⟨hi1, hi2⟩, hi3⟩, ⟨hj1, hj2⟩, hj3⟩, hcnt⟩ := hB
    have hcnt' : cntT u = cntT t := Nat.eq_of_beq_eq_true hcnt
    show wpHL P md l.toArray S n _ (cntT t + 1) listed a w
    refine ⟨(fun e => by rw [e] at h1; cases h1), fun x hx => ?_⟩
    have gen : ∀ (y : Nat) (v : Tr), y ∈ Region.ready md l.toArray listed → (Nat.blt y n = true) → ((l.toArray[y]?).isSome = true) → (∀ (listed : Array Bool) (a : Act) (w : World), HeadInv md l.toArray n listed → headT md l.toArray n v listed = true → S w → wpT P l S F v a w →
        wpHL P md l.toArray S n (fun listed' a' w' => Region.seqB md l.toArray (l.toArray.size - n) n listed' = true ∧ F a' w') (cntT v) listed a w) → cntT v = cntT t → headT md l.toArray n v (listed.setIfInBounds y true) = true →
        wpList P l.toArray (OnlyN fun a' w' => S w' ∧ wpT P l S F v a' w') [nth l y] a w →
        y < n ∧ wpOp P l.toArray NoQ y (fun a' w' => S w' ∧ wpHL P md l.toArray S n (fun listed' a' w' => Region.seqB md l.toArray (l.toArray.size - n) n listed' = true ∧ F a' w') (cntT t) (listed.setIfInBounds y true) a' w') a w := by
      intro y v hy hyn hys ih hc hB' hw
      have hin : y < n := by simpa [Nat.blt_eq] using hyn
      refine ⟨hin, ?_⟩
      cases ho : l.toArray[y]? with
      | none => rw [ho] at hys; cases hys
      | some o =>
        have hnth := nth_eq l y o (by simpa using ho)
        rw [hnth] at hw
        have key : ∀ a' w', S w' ∧ wpT P l S F v a' w' → S w' ∧ wpHL P md l.toArray S n (fun listed' a' w' => Region.seqB md l.toArray (l.toArray.size - n) n listed' = true ∧ F a' w') (cntT t) (listed.setIfInBounds y true) a' w' := fun a' w' h' => by
          refine ⟨h'.1, ?_⟩
          have := ih _ a' w' (inv.set hy hin) hB' h'.1 h'.2
          rwa [hc] at this
        unfold wpOp
        simp only [ho]
        unfold wpList at hw
        split
        · rename_i hwn
          rw [if_pos hwn] at hw
          rcases hw with hw | ⟨_, hw⟩
          · exact .inl (Oper.wp_mono (fun a' w' h' => key a' w' h') (wp_onlyN hw))
          · exact absurd hw lets_onlyN
        · rename_i hwn
          rw [if_neg hwn] at hw
          exact key _ _ hw
    have hxx := h2 x hx
    rcases hxx with hxi | hxj
    · have : x = i := Nat.eq_of_beq_eq_true hxi
      subst this
      exact gen x t hx hi1 hi2 ih1 rfl hi3 h.1
    · have : x = j := Nat.eq_of_beq_eq_true hxj
      subst this
      exact gen x u hx hj1 hj2 ih2 hcnt' hj3 h.2
def heldTB (ops : Array Oper) (n : Nat) (t : Tr) : Bool := Region.noSelect ops && tailB .any ops n && Nat.beq (cntT t) n && headT .any ops n t (Array.replicate ops.size false)
end
section
variable {P : Program} {N : Nat} {env : Env} {r w w' : World} {O : List Own} {Q : Exit → Act → World → Prop} {l : List Oper} {S : World → Prop} {F : Act → World → Prop}
theorem j_heldTr {id : Nat} {l : List Oper} (n : Nat) (t : Tr) (S : World → Prop) (hm : P.follows .mixedOrders = true) (hB : heldTB l.toArray n t = true)
    (h : ∀ w1, Below w.heap.size w w1 → w1.heap.size = w.heap.size → S w1 ∧ J N env w1 (wpT P l S (wpList P l.toArray Q (l.drop n)) t)) : J N env w (Code.wp P (.region id l.toArray true) Q) := by
  intro a ha
  obtain ⟨hS, hj⟩ := h w.drew (below_drew w) rfl
  simp only [heldTB, Bool.and_eq_true] at hB
  obtain ⟨⟨⟨hsel, hn⟩, hlen⟩, hhead⟩ := hB
  have hlen' : cntT t = n := Nat.eq_of_beq_eq_true hlen
  have hle : n ≤ l.toArray.size := by
    unfold tailB at hn
    rw [Bool.or_eq_true] at hn
    rcases hn with hn | hn
    · exact Nat.le_of_eq (Nat.eq_of_beq_eq_true hn)
    · simp only [Bool.and_eq_true] at hn
      have : n < l.toArray.size := by simpa [Nat.blt_eq] using hn.2
      omega
  have inv0 : HeadInv .any l.toArray n (Array.replicate l.toArray.size false) :=
    ⟨by simp, fun j oj _ hl => (by rw [getD_replicate_false] at hl; cases hl), fun t _ ht => getD_in (by simpa using ht) (getD_replicate_false _ _)⟩
  have H := hl_T hsel hn t _ a w.drew inv0 hhead hS (hj a ha)
  have hdl : (l.drop n).length = l.toArray.size - n := by simp
  refine wp_region_any hm ?_
  have := any_of_hl (Q := Q) (g := l.toArray.size - n) (fun listed a' w' hL => by
    have := wpAny_of_seq (md := .any) (Q' := Q) (l.drop n) n listed a' w' (fun j => by simp [List.getElem?_drop]) (by rw [hdl]; exact hL.1) hL.2
    rwa [hdl] at this) _ _ _ _ H
  rw [hlen', show n + (l.toArray.size - n) = l.toArray.size by omega] at this
  exact this
theorem k_heldTr {id : Nat} (n : Nat) (t : Tr) (hm : P.follows .mixedOrders = true) (hB : heldTB l.toArray n t = true)
    (h : K N env r O (wpT P l (Sat r O) (wpList P l.toArray Q (l.drop n)) t)) : K N env r O (Code.wp P (.region id l.toArray true) Q) :=
  fun _ hw => j_heldTr n t (Sat r O) hm hB fun w1 hb _ => ⟨hw.ext hb, h w1 (hw.ext hb)⟩
theorem k_heldTrS {id : Nat} (n : Nat) (t : Tr) (O0 : List Own) (hs : SubO O0 O) (hm : P.follows .mixedOrders = true) (hB : heldTB l.toArray n t = true)
    (h : K N env r O (wpT P l (Sat r O0) (wpList P l.toArray Q (l.drop n)) t)) : K N env r O (Code.wp P (.region id l.toArray true) Q) :=
  fun _ hw => j_heldTr n t (Sat r O0) hm hB fun w1 hb _ => ⟨(hw.ext hb).sub hs, h w1 (hw.ext hb)⟩
theorem kt_nil (h : K N env r O F) : K N env r O (wpT P l S F .nil) := h
theorem kt_op {O0 : List Own} {k d : Nat} {t : Tr} {op : Op} {ty : TypeId} {pos : String} {after : Array Edge} {v : Value} (ho : nth l k = ⟨some d, op, ty, pos, after, none⟩) (hst : stillOp op = true) (hd : Nat.blt d N = true) (hv : ∀ w, Sat r O0 w → OV P env op w v) (h : K N ((d, v) :: env) r O (wpT P l (Sat r O0) F t)) :
    K N env r O (wpT P l (Sat r O0) F (.one k t)) := by
  intro w hw a ha
  show bif stillOp (nth l k).op then _ else _
  rw [ho]
  simp only [hst, cond_true]
  exact ⟨v, .inl ⟨by simp [Region.wanted], fun w' hS => hv w' hS a.eval (fun h => ha.ev h) _ rfl⟩, h w hw _ (ha.put hd v)⟩
theorem kt_run {k : Nat} {t : Tr} {o : Oper} (ho : nth l k = o) (hst : stillOp o.op = false) (h : K N env r O (wpList P l.toArray (OnlyN fun a' w' => S w' ∧ wpT P l S F t a' w') [o])) : K N env r O (wpT P l S F (.one k t)) := by
  intro w hw a ha
  show bif stillOp (nth l k).op then _ else _
  rw [ho, hst]
  exact h w hw a ha
theorem kt_two {i j : Nat} {t u : Tr} {o1 o2 : Oper} (h1 : nth l i = o1) (h2 : nth l j = o2) (ha : K N env r O (wpList P l.toArray (OnlyN fun a' w' => S w' ∧ wpT P l S F t a' w') [o1])) (hb : K N env r O (wpList P l.toArray (OnlyN fun a' w' => S w' ∧ wpT P l S F u a' w') [o2])) : K N env r O (wpT P l S F (.two i t j u)) := by
  intro w hw a hA
  subst h1; subst h2
  exact ⟨ha w hw a hA, hb w hw a hA⟩
theorem kt_back {t : Tr} {O0 : List Own} {ops : Array Oper} (hS : SubO O0 O) (h : K N env r O (wpT P l (Sat r O0) F t)) : K N env r O (wpList P ops (OnlyN fun a' w' => Sat r O0 w' ∧ wpT P l (Sat r O0) F t a' w') []) := fun w hw a ha => ⟨hw.sub hS, h w hw a ha⟩
end
end Go.Proofs.YtddiecdoaggaaaaDoor
