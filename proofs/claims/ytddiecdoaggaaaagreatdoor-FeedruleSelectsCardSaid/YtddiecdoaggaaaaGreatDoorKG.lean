/- The engine in regions that draw their order: groups of operations that make memory, in whatever order. No program. -/
import Derived.Test.YtddiecdoaggaaaaGreatDoorWalk
namespace Go.Proofs.YtddiecdoaggaaaaGreatDoor
open Go.RowKit

section
variable {P : Program} {md : Region.Mode} {S : World → Prop} {Q : Exit → Act → World → Prop}
/-- The head in groups: a group of one is as in wpHeld; of a larger one each operation may come next. -/
def wpHG (P : Program) (l : List Oper) (S : World → Prop) (F : Act → World → Prop) : Nat → List Nat → List (List Nat) → Act → World → Prop
  | 0, _, _, _, _ => False
  | _ + 1, [], [], a, w => F a w
  | f + 1, [], g :: gs, a, w => wpHG P l S F f g gs a w
  | f + 1, [k], gs, a, w => bif stillOp (nth l k).op then ∃ v, YieldsIf P l.toArray S (nth l k) v a ∧ wpHG P l S F f [] gs (a.put (nth l k).dst v) w
      else wpList P l.toArray (OnlyN fun a' w' => S w' ∧ wpHG P l S F f [] gs a' w') [nth l k] a w
  | f + 1, g, gs, a, w => ∀ i ∈ g, wpList P l.toArray (OnlyN fun a' w' => S w' ∧ wpHG P l S F f (g.erase i) gs a' w') [nth l i] a w
def headG (md : Region.Mode) (ops : Array Oper) (n : Nat) : Nat → List Nat → List (List Nat) → Array Bool → Bool
  | 0, _, _, _ => false
  | _ + 1, [], [], listed => Region.seqB md ops (ops.size - n) n listed
  | f + 1, [], g :: gs, listed => headG md ops n f g gs listed
  | f + 1, [k], gs, listed => Nat.blt k n && (match ops[k]? with
      | some o => bif stillOp o.op then (Region.ready md ops listed).contains k && Region.free md ops listed k else decide (Region.ready md ops listed = [k])
      | none => false) && headG md ops n f [] gs (listed.setIfInBounds k true)
  | f + 1, g, gs, listed => !(Region.ready md ops listed).isEmpty && (Region.ready md ops listed).all (fun i => g.contains i && Nat.blt i n && (ops[i]?).isSome && headG md ops n f (g.erase i) gs (listed.setIfInBounds i true))
def count : List (List Nat) → Nat
  | [] => 0
  | g :: gs => g.length + count gs
theorem count_erase {g : List Nat} {i : Nat} (h : i ∈ g) : (g.erase i).length + 1 = g.length := by
  rw [List.length_erase_of_mem h]
  have : 0 < g.length := List.length_pos_of_mem h
  omega
theorem hl_G {l : List Oper} {n : Nat} {F : Act → World → Prop} (hsel : Region.noSelect l.toArray = true) (hn : tailB md l.toArray n = true) :
    ∀ (f : Nat) (g : List Nat) (gs : List (List Nat)) (listed : Array Bool) (a : Act) (w : World), HeadInv md l.toArray n listed → headG md l.toArray n f g gs listed = true → S w → wpHG P l S F f g gs a w →
    wpHL P md l.toArray S n (fun listed' a' w' => Region.seqB md l.toArray (l.toArray.size - n) n listed' = true ∧ F a' w') (g.length + count gs) listed a w := by
  intro f
  induction f with
  | zero => intro g gs listed a w _ _ _ h; exact h.elim
  | succ f ih =>
    intro g gs listed a w inv hB hS h
    match g, gs with
    | [], [] => exact ⟨hB, h⟩
    | [], g :: gs =>
      have := ih g gs listed a w inv hB hS h
      simpa [count] using this
    | [k], gs =>
      simp only [headG, Bool.and_eq_true] at hB
      obtain ⟨⟨hk, hm⟩, hB'⟩ := hB
      have hkn : k < n := by simpa [Nat.blt_eq] using hk
      cases ho : l.toArray[k]? with
      | none => simp only [ho] at hm; cases hm
      | some o =>
        have hnth := nth_eq l k o (by simpa using ho)
        simp only [ho] at hm
        simp only [wpHG, hnth] at h
        rw [show [k].length + count gs = count gs + 1 by simp; omega]
        cases hst : stillOp o.op with
        | true =>
          rw [hst] at hm h
          simp only [cond_true, Bool.and_eq_true] at hm h
          obtain ⟨v, hy, hK⟩ := h
          have hr : k ∈ Region.ready md l.toArray listed := by simpa using hm.1
          have := ih [] gs (listed.setIfInBounds k true) (a.put o.dst v) w (inv.set hr hkn) hB' hS hK
          simp only [List.length_nil, Nat.zero_add] at this
          exact hl_first ho (Region.noSelect_spec hsel) hn hkn (fun listed' a' w' hL => seqB_ready hL.1) (count gs) listed a w inv (Region.free_spec ho hm.2) hr hy hS this
        | false =>
          rw [hst] at hm h
          simp only [cond_false, decide_eq_true_eq] at hm h
          refine ⟨by rw [hm]; simp, fun i hi => ?_⟩
          have hr : k ∈ Region.ready md l.toArray listed := by rw [hm]; simp
          rw [hm] at hi
          have hik : i = k := by simpa using hi
          subst hik
          refine ⟨hkn, ?_⟩
          have key : ∀ a' w', S w' ∧ wpHG P l S F f [] gs a' w' → S w' ∧ wpHL P md l.toArray S n (fun listed' a' w' => Region.seqB md l.toArray (l.toArray.size - n) n listed' = true ∧ F a' w') (count gs) (listed.setIfInBounds i true) a' w' := fun a' w' h' => by
            refine ⟨h'.1, ?_⟩
            have := ih [] gs _ a' w' (inv.set hr hkn) hB' h'.1 h'.2
            simpa using this
          unfold wpOp
          simp only [ho]
          unfold wpList at h
          split
          · rename_i hw
            rw [if_pos hw] at h
            rcases h with h | ⟨_, h⟩
            · exact .inl (Oper.wp_mono (fun a' w' h' => key a' w' h') (wp_onlyN h))
            · exact absurd h lets_onlyN
          · rename_i hw
            rw [if_neg hw] at h
            exact key _ _ h
    | k1 :: k2 :: g, gs =>
      simp only [headG, Bool.and_eq_true, List.all_eq_true] at hB
      obtain ⟨h1, h2⟩ := hB
      simp only [wpHG] at h
      rw [show (k1 :: k2 :: g).length + count gs = ((k1 :: k2 :: g).length - 1 + count gs) + 1 by simp; omega]
      refine ⟨(fun e => by rw [e] at h1; cases h1), fun i hi => ?_⟩
      obtain ⟨⟨⟨h3, h4⟩, h5⟩, h6⟩ := h2 i hi
      have hin : i < n := by simpa [Nat.blt_eq] using h4
      have hig : i ∈ k1 :: k2 :: g := by simpa using h3
      refine ⟨hin, ?_⟩
      have hi' := h i hig
      cases ho : l.toArray[i]? with
      | none => rw [ho] at h5; cases h5
      | some o =>
        have hnth := nth_eq l i o (by simpa using ho)
        rw [hnth] at hi'
        have key : ∀ a' w', S w' ∧ wpHG P l S F f ((k1 :: k2 :: g).erase i) gs a' w' → S w' ∧ wpHL P md l.toArray S n (fun listed' a' w' => Region.seqB md l.toArray (l.toArray.size - n) n listed' = true ∧ F a' w') ((k1 :: k2 :: g).length - 1 + count gs) (listed.setIfInBounds i true) a' w' := fun a' w' h' => by
          refine ⟨h'.1, ?_⟩
          have := ih _ gs _ a' w' (inv.set hi hin) h6 h'.1 h'.2
          have e := count_erase hig
          rw [show ((k1 :: k2 :: g).erase i).length = (k1 :: k2 :: g).length - 1 by omega] at this
          exact this
        unfold wpOp
        simp only [ho]
        unfold wpList at hi'
        split
        · rename_i hw
          rw [if_pos hw] at hi'
          rcases hi' with hi' | ⟨_, hi'⟩
          · exact .inl (Oper.wp_mono (fun a' w' h' => key a' w' h') (wp_onlyN hi'))
          · exact absurd hi' lets_onlyN
        · rename_i hw
          rw [if_neg hw] at hi'
          exact key _ _ hi'
def heldG (ops : Array Oper) (n f : Nat) (ord : List (List Nat)) : Bool := Region.noSelect ops && tailB .any ops n && Nat.beq (count ord) n && headG .any ops n f [] ord (Array.replicate ops.size false)
end

section
variable {P : Program} {N : Nat} {env : Env} {r w w' : World} {O : List Own} {Q : Exit → Act → World → Prop} {l : List Oper} {S : World → Prop} {F : Act → World → Prop}
/-- A region that draws: its first n operations in the groups ord, S behind each; then the rest, which comes in one order. -/
theorem j_heldG {id : Nat} {l : List Oper} (n f : Nat) (ord : List (List Nat)) (S : World → Prop) (hm : P.follows .mixedOrders = true) (hB : heldG l.toArray n f ord = true)
    (h : ∀ w1, Below w.heap.size w w1 → w1.heap.size = w.heap.size → S w1 ∧ J N env w1 (wpHG P l S (wpList P l.toArray Q (l.drop n)) f [] ord)) : J N env w (Code.wp P (.region id l.toArray true) Q) := by
  intro a ha
  obtain ⟨hS, hj⟩ := h w.drew (below_drew w) rfl
  simp only [heldG, Bool.and_eq_true] at hB
  obtain ⟨⟨⟨hsel, hn⟩, hlen⟩, hhead⟩ := hB
  have hlen' : count ord = n := Nat.eq_of_beq_eq_true hlen
  have hle : n ≤ l.toArray.size := by
    unfold tailB at hn
    rw [Bool.or_eq_true] at hn
    rcases hn with hn | hn
    · exact Nat.le_of_eq (Nat.eq_of_beq_eq_true hn)
    · simp only [Bool.and_eq_true] at hn
      have : n < l.toArray.size := by simpa [Nat.blt_eq] using hn.2
      omega
  have inv0 : HeadInv .any l.toArray n (Array.replicate l.toArray.size false) :=
    ⟨by simp, fun j oj _ hl => (by rw [getD_replicate_false] at hl; cases hl), fun t _ ht => getD_in (by simpa using ht) (getD_replicate_false _ _)⟩
  have H := hl_G hsel hn f [] ord _ a w.drew inv0 hhead hS (hj a ha)
  simp only [List.length_nil, Nat.zero_add] at H
  have hdl : (l.drop n).length = l.toArray.size - n := by simp
  refine wp_region_any hm ?_
  have := any_of_hl (Q := Q) (g := l.toArray.size - n) (fun listed a' w' hL => by
    have := wpAny_of_seq (md := .any) (Q' := Q) (l.drop n) n listed a' w' (fun j => by simp [List.getElem?_drop]) (by rw [hdl]; exact hL.1) hL.2
    rwa [hdl] at this) _ _ _ _ H
  rw [hlen', show n + (l.toArray.size - n) = l.toArray.size by omega] at this
  exact this
theorem k_heldG {id : Nat} (n f : Nat) (ord : List (List Nat)) (hm : P.follows .mixedOrders = true) (hB : heldG l.toArray n f ord = true)
    (h : K N env r O (wpHG P l (Sat r O) (wpList P l.toArray Q (l.drop n)) f [] ord)) : K N env r O (Code.wp P (.region id l.toArray true) Q) :=
  fun _ hw => j_heldG n f ord (Sat r O) hm hB fun w1 hb _ => ⟨hw.ext hb, h w1 (hw.ext hb)⟩
theorem kg_end {f : Nat} (h : K N env r O F) : K N env r O (wpHG P l S F (f + 1) [] []) := h
theorem kg_next {f : Nat} {g : List Nat} {gs : List (List Nat)} (h : K N env r O (wpHG P l S F f g gs)) : K N env r O (wpHG P l S F (f + 1) [] (g :: gs)) := h

theorem kg_op {O0 : List Own} {f k d : Nat} {gs : List (List Nat)} {op : Op} {ty : TypeId} {pos : String} {after : Array Edge} {v : Value} (ho : nth l k = ⟨some d, op, ty, pos, after, none⟩) (hst : stillOp op = true) (hd : Nat.blt d N = true) (hv : ∀ w, Sat r O0 w → OV P env op w v) (h : K N ((d, v) :: env) r O (wpHG P l (Sat r O0) F f [] gs)) :
    K N env r O (wpHG P l (Sat r O0) F (f + 1) [k] gs) := by
  intro w hw a ha
  show bif stillOp (nth l k).op then _ else _
  rw [ho]
  simp only [hst, cond_true]
  exact ⟨v, .inl ⟨by simp [Region.wanted], fun w' hS => hv w' hS a.eval (fun h => ha.ev h) _ rfl⟩, h w hw _ (ha.put hd v)⟩

theorem kg_run {f k : Nat} {gs : List (List Nat)} {o : Oper} (ho : nth l k = o) (hst : stillOp o.op = false) (h : K N env r O (wpList P l.toArray (OnlyN fun a' w' => S w' ∧ wpHG P l S F f [] gs a' w') [o])) : K N env r O (wpHG P l S F (f + 1) [k] gs) := by
  intro w hw a ha
  show bif stillOp (nth l k).op then _ else _
  rw [ho, hst]
  exact h w hw a ha
theorem kg_back {f : Nat} {gs : List (List Nat)} {O0 : List Own} {ops : Array Oper} (hS : SubO O0 O) (h : K N env r O (wpHG P l (Sat r O0) F f [] gs)) : K N env r O (wpList P ops (OnlyN fun a' w' => Sat r O0 w' ∧ wpHG P l (Sat r O0) F f [] gs a' w') []) := fun w hw a ha => ⟨hw.sub hS, h w hw a ha⟩

/-- Permuted slots and parts. -/
theorem St.perm {env : Env} {A B : Env} {a : Act} (h : St N (A ++ env) a) (hp : A.Perm B) (hd : (A.map (·.1)).Nodup) : St N (B ++ env) a := by
  have key : ∀ (l : Env) (env : Env) (t : Nat) (v : Value), look (l ++ env) t = some v → (t, v) ∈ l ∨ (t ∉ l.map (·.1) ∧ look env t = some v) := by
    intro l
    induction l with
    | nil => intro env t v h; exact .inr ⟨by simp, h⟩
    | cons x l ih =>
      intro env t v h
      obtain ⟨k, u⟩ := x
      rw [List.cons_append, look_cons] at h
      by_cases hk : Nat.beq k t = true
      · rw [hk] at h
        have e : k = t := Nat.eq_of_beq_eq_true hk
        subst e
        simp only [cond_true, Option.some.injEq] at h
        subst h; exact .inl (by simp)
      · have hk' : Nat.beq k t = false := Bool.eq_false_iff.2 hk
        rw [hk'] at h
        rcases ih env t v h with h1 | ⟨h1, h2⟩
        · exact .inl (List.mem_cons_of_mem _ h1)
        · refine .inr ⟨?_, h2⟩
          have : k ≠ t := fun e => hk (by rw [e]; exact Nat.beq_refl t)
          simp only [List.map_cons, List.mem_cons, not_or]
          exact ⟨fun e => this e.symm, h1⟩
  have back : ∀ (l : Env) (env : Env) (t : Nat) (v : Value), (l.map (·.1)).Nodup → ((t, v) ∈ l ∨ (t ∉ l.map (·.1) ∧ look env t = some v)) → look (l ++ env) t = some v := by
    intro l
    induction l with
    | nil => intro env t v _ h; rcases h with h | h; · cases h
             · exact h.2
    | cons x l ih =>
      intro env t v hn h
      obtain ⟨k, u⟩ := x
      simp only [List.map_cons, List.nodup_cons] at hn
      rw [List.cons_append, look_cons]
      rcases h with h | ⟨h1, h2⟩
      · rcases List.mem_cons.1 h with h | h
        · injection h with h1 h2
          subst h1 h2
          rw [Nat.beq_refl]; rfl
        · have hne : k ≠ t := fun e => hn.1 (by rw [e]; exact List.mem_map.2 ⟨_, h, rfl⟩)
          rw [show Nat.beq k t = false from Bool.eq_false_iff.2 fun e => hne (Nat.eq_of_beq_eq_true e)]
          exact ih env t v hn.2 (.inl h)
      · simp only [List.map_cons, List.mem_cons, not_or] at h1
        rw [show Nat.beq k t = false from Bool.eq_false_iff.2 fun e => h1.1 (Nat.eq_of_beq_eq_true e).symm]
        exact ih env t v hn.2 (.inr ⟨h1.2, h2⟩)
  refine ⟨h.defers, h.size, fun t v ht => ?_⟩
  refine h.get t v (back A env t v hd ?_)
  rcases key B env t v ht with h1 | ⟨h1, h2⟩
  · exact .inl (hp.mem_iff.2 h1)
  · exact .inr ⟨fun e => h1 ((hp.map (·.1)).mem_iff.1 e), h2⟩
theorem Sat.perm {O' : List Own} (h : Sat r O w) (hp : O.Perm O') : Sat r O' w := by
  refine ⟨h.os, h.tape, h.output, h.size, fun k hk hh => h.agree k hk fun o ho => hh o (hp.mem_iff.1 ho), fun o ho => h.all o (hp.mem_iff.2 ho), ?_⟩
  exact (hp.pairwise_iff (fun {a b} hab k hk => hab k ⟨hk.2, hk.1⟩)).1 h.disj

/-- What a group of allocations is: for each operation its slot, its type and its cells. -/
structure Mk where
  i : Nat
  d : Nat
  t : TypeId
  cs : List Value
def Mk.sl (b : Nat → Nat) (m : Mk) : Nat × Value := (m.d, .pointer (some ⟨b m.d, 0, none⟩))
def Mk.own (b : Nat → Nat) (m : Mk) : Own := bk false (b m.d) m.cs m.t
/-- The operation makes what m says. -/
def Mk.fits (P : Program) (N : Nat) (l : List Oper) (m : Mk) : Prop :=
  ∃ ty pos after, nth l m.i = ⟨some m.d, .alloc m.t, ty, pos, after, none⟩ ∧ Nat.blt m.d N = true ∧ ∃ z, (∀ w, (zeroValue m.t).run P w = .ok z w) ∧ z.cells.toList = m.cs
theorem Mk.fits_of {m : Mk} {z : Value} {ty : TypeId} {pos : String} {after : Array Edge} [hz : TZero P m.t z] (h1 : nth l m.i = ⟨some m.d, .alloc m.t, ty, pos, after, none⟩) (h2 : Nat.blt m.d N = true) (h3 : z.cells.toList = m.cs) : m.fits P N l := ⟨ty, pos, after, h1, h2, z, hz.run, h3⟩
theorem mk_step {m : Mk} (hm : m.fits P N l) (hSO : ∀ w, Sat r O w → S w) {L : Act → World → Prop} (h : ∀ b, K N ((m.d, .pointer (some ⟨b, 0, none⟩)) :: env) r (bk false b m.cs m.t :: O) L) :
    K N env r O (wpList P l.toArray (OnlyN fun a' w' => S w' ∧ L a' w') [nth l m.i]) := by
  obtain ⟨ty, pos, after, h1, h2, z, hz, h3⟩ := hm
  rw [h1]
  haveI : TZero P m.t z := ⟨hz⟩
  refine k_alloc h2 h3 ?_
  intro b w hw a ha
  exact ⟨hSO w (hw.sub (.drop rfl (SubO.rfl _))), h b w hw a ha⟩
theorem kg_allocs (gs : List (List Nat)) : ∀ (n : Nat) (ms : List Mk) (f : Nat) (env : Env) (O : List Own), ms.length = n + 2 → (ms.map (·.d)).Nodup → (ms.map (·.i)).Nodup → (∀ m ∈ ms, m.fits P N l) → (∀ w, Sat r O w → S w) →
    (∀ b, K N (ms.map (Mk.sl b) ++ env) r (ms.map (Mk.own b) ++ O) (wpHG P l S F f [] gs)) → K N env r O (wpHG P l S F (f + n + 2) (ms.map (·.i)) gs) := by
  intro n
  induction n with
  | zero =>
    intro ms f env O hl hd hi hf hSO h
    match ms, hl with
    | [m1, m2], _ =>
      simp only [List.map_cons, List.map_nil, List.nodup_cons, List.mem_cons, List.not_mem_nil, or_false, not_false_eq_true, List.nodup_nil, and_true] at hd hi
      intro w hw a ha
      show ∀ i ∈ [m1.i, m2.i], _
      intro i him
      have two : ∀ (x y : Mk), x.fits P N l → y.fits P N l → (∀ b, K N (Mk.sl b y :: Mk.sl b x :: env) r (Mk.own b y :: Mk.own b x :: O) (wpHG P l S F f [] gs)) → x.d ≠ y.d →
          wpList P l.toArray (OnlyN fun a' w' => S w' ∧ wpHG P l S F (f + 1) [y.i] gs a' w') [nth l x.i] a w := by
        intro x y hx hy hK hxy
        refine mk_step hx hSO (fun bx => ?_) w hw a ha
        have hst : stillOp (nth l y.i).op = false := by
          obtain ⟨_, _, _, h1, _⟩ := hy; rw [h1]; rfl
        intro w1 hw1 a1 ha1
        show bif stillOp (nth l y.i).op then _ else _
        rw [hst]
        refine mk_step hy (fun w hw => hSO w (hw.sub (.drop rfl (SubO.rfl _)))) (fun by' => ?_) w1 hw1 a1 ha1
        have := hK (fun t => if t = x.d then bx else by')
        simp only [Mk.sl, Mk.own, if_true, if_neg (Ne.symm hxy)] at this
        exact this
      rcases List.mem_cons.1 him with rfl | him
      · have := two m1 m2 (hf m1 (by simp)) (hf m2 (by simp)) (fun b w hw a ha => by
          refine h b w (hw.perm (List.Perm.swap _ _ _)) a (ha.perm (A := [Mk.sl b m2, Mk.sl b m1]) (List.Perm.swap _ _ _) ?_)
          simp [Mk.sl]; exact fun e => hd e.symm) hd
        simpa using this
      · have e : i = m2.i := by simpa using him
        subst e
        have := two m2 m1 (hf m2 (by simp)) (hf m1 (by simp)) (fun b w hw a ha => h b w hw a ha) (Ne.symm hd)
        have e2 : [m1.i, m2.i].erase m2.i = [m1.i] := by
          rw [List.erase_cons_tail (by simpa using hi)]; simp
        exact Eq.mpr (congrArg (fun X => wpList P l.toArray (OnlyN fun a' w' => S w' ∧ wpHG P l S F (f + 1) X gs a' w') [nth l m2.i] a w) e2) this
  | succ n ih =>
    intro ms f env O hl hd hi hf hSO h
    match ms, hl with
    | m1 :: m2 :: m3 :: rest, hl =>
      intro w hw a ha
      show ∀ i ∈ (m1 :: m2 :: m3 :: rest).map (·.i), _
      intro i him
      obtain ⟨m, hm, rfl⟩ := List.mem_map.1 him
      have hsplit := List.append_of_mem hm
      obtain ⟨A, B, hAB⟩ := hsplit
      have e0 : (m1 :: m2 :: m3 :: rest).map (·.i) = (A ++ m :: B).map (·.i) := by rw [hAB]
      refine Eq.mpr (congrArg (fun X => wpList P l.toArray (OnlyN fun a' w' => S w' ∧ wpHG P l S F (f + (n + 1) + 1) (X.erase m.i) gs a' w') [nth l m.i] a w) e0) ?_
      rw [hAB] at hl hd hi hf h
      have hlen : (A ++ B).length = n + 2 := by simp at hl ⊢; omega
      have hmA : m.i ∉ A.map (·.i) := by
        rw [List.map_append, List.map_cons, List.nodup_append] at hi
        intro hx
        exact hi.2.2 m.i hx m.i (by simp) rfl
      have herase : ((A ++ m :: B).map (·.i)).erase m.i = (A ++ B).map (·.i) := by
        rw [List.map_append, List.map_cons, List.erase_append_right _ hmA, List.erase_cons_head, ← List.map_append]
      refine mk_step (hf m (by simp)) hSO (fun b0 => ?_) w hw a ha
      rw [herase, show f + (n + 1) + 1 = f + n + 2 by omega]
      have hperm : ∀ {α : Type} (g : Mk → α), ((A ++ m :: B).map g).Perm ((A ++ B).map g ++ [g m]) := by
        intro α g
        rw [List.map_append, List.map_cons, List.map_append]
        refine (List.perm_middle).trans ?_
        exact (List.perm_append_singleton _ _).symm
      have hmd : m.d ∉ (A ++ B).map (·.d) := by
        rw [List.map_append, List.map_cons, List.nodup_append] at hd
        intro hx
        rw [List.map_append, List.mem_append] at hx
        rcases hx with hx | hx
        · exact hd.2.2 m.d hx m.d (by simp) rfl
        · exact (List.nodup_cons.1 hd.2.1).1 hx
      refine ih (A ++ B) f _ _ hlen ?_ ?_ (fun x hx => hf x (by rcases List.mem_append.1 hx with h | h <;> simp [h])) (fun w hw => hSO w (hw.sub (.drop rfl (SubO.rfl _)))) (fun b => ?_)
      · exact hd.sublist (by rw [List.map_append, List.map_append, List.map_cons]; exact (List.sublist_cons_self _ _).append_left _)
      · exact hi.sublist (by rw [List.map_append, List.map_append, List.map_cons]; exact (List.sublist_cons_self _ _).append_left _)
      · have hK := h (fun t => if t = m.d then b0 else b t)
        have e1 : (A ++ B).map (Mk.sl fun t => if t = m.d then b0 else b t) = (A ++ B).map (Mk.sl b) := by
          refine List.map_congr_left fun x hx => ?_
          have : x.d ≠ m.d := fun e => hmd (by rw [← e]; exact List.mem_map.2 ⟨x, hx, rfl⟩)
          simp [Mk.sl, this]
        have e2 : (A ++ B).map (Mk.own fun t => if t = m.d then b0 else b t) = (A ++ B).map (Mk.own b) := by
          refine List.map_congr_left fun x hx => ?_
          have : x.d ≠ m.d := fun e => hmd (by rw [← e]; exact List.mem_map.2 ⟨x, hx, rfl⟩)
          simp [Mk.own, this]
        intro w1 hw1 a1 ha1
        have p1 := hperm (Mk.sl fun t => if t = m.d then b0 else b t)
        have p2 := hperm (Mk.own fun t => if t = m.d then b0 else b t)
        rw [e1] at p1
        rw [e2] at p2
        have q1 : Mk.sl (fun t => if t = m.d then b0 else b t) m = (m.d, .pointer (some ⟨b0, 0, none⟩)) := by simp [Mk.sl]
        have q2 : Mk.own (fun t => if t = m.d then b0 else b t) m = bk false b0 m.cs m.t := by simp [Mk.own]
        rw [q1] at p1
        rw [q2] at p2
        refine hK w1 ?_ a1 ?_
        · refine hw1.perm ?_
          have := (p2.symm).append_right O
          rw [List.append_assoc] at this
          exact this
        · have ha1' : St N (((A ++ B).map (Mk.sl b) ++ [(m.d, .pointer (some ⟨b0, 0, none⟩))]) ++ env) a1 := by
            rw [List.append_assoc]; exact ha1
          refine ha1'.perm p1.symm ?_
          rw [List.map_append, List.map_map]
          have : ((A ++ B).map ((fun x => x.1) ∘ Mk.sl b)) = (A ++ B).map (·.d) := List.map_congr_left fun x _ => rfl
          rw [this]
          rw [List.nodup_append]
          refine ⟨hd.sublist (by rw [List.map_append, List.map_append, List.map_cons]; exact (List.sublist_cons_self _ _).append_left _), by simp, ?_⟩
          intro x hx y hy e
          have : y = m.d := by simpa using hy
          subst this
          subst e
          exact hmd hx
end
attribute [irreducible] wpHG
theorem gwalk {p q : Prop} (hq : q) (h : Box q → p := by intro hrest; (repeat (first | apply kg_end | (apply kg_next; apply kg_op; exact rfl; exact rfl; exact rfl; intro _ hw; first | (apply ov_move; exact rfl) | (apply ov_assign; exact rfl) | (apply ov_fieldAddr; exact rfl) | (apply ov_nilCheck; exact rfl) | (apply oc_lss; exact rfl; exact rfl; first | exact decide_eq_true (by omega) | exact decide_eq_false (by omega) | exact rfl) | (apply oc_leq; exact rfl; exact rfl; first | exact decide_eq_true (by omega) | exact decide_eq_false (by omega) | exact rfl) | (apply oc_gtr; exact rfl; exact rfl; first | exact decide_eq_true (by omega) | exact decide_eq_false (by omega) | exact rfl) | (apply oc_geq; exact rfl; exact rfl; first | exact decide_eq_true (by omega) | exact decide_eq_false (by omega) | exact rfl) | (apply oc_eql; exact rfl; exact rfl; first | exact decide_eq_true (by omega) | exact decide_eq_false (by omega) | exact rfl) | (apply oc_neq; exact rfl; exact rfl; first | exact decide_eq_true (by omega) | exact decide_eq_false (by omega) | exact rfl) | (apply ov_own 0 hw; infer_instance; exact rfl; exact rfl; exact rfl) | (apply ov_own 1 hw; infer_instance; exact rfl; exact rfl; exact rfl) | (apply ov_own 2 hw; infer_instance; exact rfl; exact rfl; exact rfl) | (apply ov_own 3 hw; infer_instance; exact rfl; exact rfl; exact rfl) | (apply ov_own 4 hw; infer_instance; exact rfl; exact rfl; exact rfl) | (apply ov_own 5 hw; infer_instance; exact rfl; exact rfl; exact rfl) | (apply ov_own 6 hw; infer_instance; exact rfl; exact rfl; exact rfl) | (apply ov_own 7 hw; infer_instance; exact rfl; exact rfl; exact rfl) | (apply ov_own 8 hw; infer_instance; exact rfl; exact rfl; exact rfl) | (apply ov_own 9 hw; infer_instance; exact rfl; exact rfl; exact rfl) | (apply ov_own 0 hw; infer_instance; exact rfl; exact rfl; (repeat (apply app_at; assumption; exact rfl)); exact rfl) | (apply ov_own 1 hw; infer_instance; exact rfl; exact rfl; (repeat (apply app_at; assumption; exact rfl)); exact rfl) | (apply ov_own 2 hw; infer_instance; exact rfl; exact rfl; (repeat (apply app_at; assumption; exact rfl)); exact rfl) | (apply ov_own 3 hw; infer_instance; exact rfl; exact rfl; (repeat (apply app_at; assumption; exact rfl)); exact rfl) | (apply ov_own 4 hw; infer_instance; exact rfl; exact rfl; (repeat (apply app_at; assumption; exact rfl)); exact rfl) | (apply ov_own 5 hw; infer_instance; exact rfl; exact rfl; (repeat (apply app_at; assumption; exact rfl)); exact rfl) | (apply ov_own 6 hw; infer_instance; exact rfl; exact rfl; (repeat (apply app_at; assumption; exact rfl)); exact rfl) | (apply ov_own 7 hw; infer_instance; exact rfl; exact rfl; (repeat (apply app_at; assumption; exact rfl)); exact rfl) | (apply ov_own 8 hw; infer_instance; exact rfl; exact rfl; (repeat (apply app_at; assumption; exact rfl)); exact rfl) | (apply ov_own 9 hw; infer_instance; exact rfl; exact rfl; (repeat (apply app_at; assumption; exact rfl)); exact rfl) | (apply ov_eld hw; infer_instance; exact rfl; exact rfl; assumption) | (apply ov_eldB hw; infer_instance; exact rfl; exact rfl; assumption; exact rfl) | (apply ov_eldB hw; infer_instance; exact rfl; exact rfl; assumption; (repeat (apply app_at; assumption; exact rfl)); exact rfl) | (apply ov_ownAgg 0 hw; infer_instance; exact rfl; exact rfl; first | exact rfl | assumption) | (apply ov_ownAgg 1 hw; infer_instance; exact rfl; exact rfl; first | exact rfl | assumption) | (apply ov_ownAgg 2 hw; infer_instance; exact rfl; exact rfl; first | exact rfl | assumption) | (apply ov_ownAgg 3 hw; infer_instance; exact rfl; exact rfl; first | exact rfl | assumption) | (apply ov_ownAgg 4 hw; infer_instance; exact rfl; exact rfl; first | exact rfl | assumption) | (apply ov_ownAgg 5 hw; infer_instance; exact rfl; exact rfl; first | exact rfl | assumption) | (apply ov_ownAgg 6 hw; infer_instance; exact rfl; exact rfl; first | exact rfl | assumption) | (apply ov_ownAgg 7 hw; infer_instance; exact rfl; exact rfl; first | exact rfl | assumption) | (apply ov_ownAgg 8 hw; infer_instance; exact rfl; exact rfl; first | exact rfl | assumption) | (apply ov_ownAgg 9 hw; infer_instance; exact rfl; exact rfl; first | exact rfl | assumption) | (apply ov_eldAgg hw; infer_instance; exact rfl; exact rfl; assumption; first | exact rfl | assumption) | (apply ov_pick_t; exact rfl; exact rfl) | (apply ov_pick_f; exact rfl; exact rfl) | (apply oc_pick_t; exact rfl; exact rfl; first | assumption | omega) | (apply oc_pick_f; exact rfl; exact rfl; first | assumption | omega) | (apply ov_not; exact rfl) | (apply ov_x20; exact rfl) | (apply ov_x21; exact rfl) | (apply ov_x30; exact rfl) | (apply ov_x31; exact rfl) | (apply ov_x32; exact rfl) | (apply ov_extract; exact rfl; exact rfl) | (apply ov_len_str; exact rfl) | (apply ov_len_slice; exact rfl) | (apply ov_makeFunc; exact rfl; exact rfl) | (apply ov_peql; exact rfl; exact rfl; exact (by kernel_rfl)) | (apply ov_pneq; exact rfl; exact rfl; exact (by kernel_rfl)) | (apply ov_iface; exact rfl; exact (by kernel_rfl)) | (apply oc_seql; exact rfl; exact rfl; first | exact decide_eq_true (by assumption) | exact decide_eq_false (by assumption) | exact rfl) | (apply oc_sneq; exact rfl; exact rfl; first | exact decide_eq_true (by assumption) | exact decide_eq_false (by assumption) | exact rfl) | (apply ov_add1; exact rfl; exact rfl; omega) | (apply ov_add2; exact rfl; exact rfl; omega) | (apply ov_addN; exact rfl; exact rfl; omega) | (apply ov_sub1; exact rfl; exact rfl; omega; omega) | (apply ov_add; exact rfl; exact rfl; exact ⟨by omega, by omega⟩) | (apply ov_sub; exact rfl; exact rfl; exact ⟨by omega, by omega⟩) | (refine ov_indexAddr1 rfl rfl _ rfl (by omega)) | (refine ov_indexAddr1o rfl rfl _ rfl (by omega)) | (refine ov_indexAddr rfl rfl _ rfl (by omega)) | (refine ov_strindex rfl rfl (by kernel_rfl) _ rfl (by omega)) | (refine ov_strfrom rfl rfl _ rfl (by omega)) | (refine ov_strto rfl rfl _ rfl (by omega)) | (refine ov_strslice rfl rfl rfl _ _ rfl rfl (by omega) (by omega)) | (apply ov_quo0; exact rfl; exact rfl; omega; omega; omega) | (apply ov_rem0; exact rfl; exact rfl; omega; omega)))); exact hrest.out) : p := h ⟨hq⟩
end Go.Proofs.YtddiecdoaggaaaaGreatDoor
