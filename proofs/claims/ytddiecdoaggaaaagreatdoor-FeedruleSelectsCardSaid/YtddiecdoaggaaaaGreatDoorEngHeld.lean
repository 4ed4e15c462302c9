/- The engine in regions that draw their order: loads beside operations that make or write memory. No program. -/
import Derived.Test.YtddiecdoaggaaaaGreatDoorEngOps
import Derived.OrdersHeld
namespace Go.Proofs.YtddiecdoaggaaaaGreatDoor
open Go.RowKit

section
variable {P : Program} {ops : Array Oper} {md : Region.Mode} {S : World → Prop} {Q : Exit → Act → World → Prop}
/-- No way out but the plain one. -/
def NoQ : Exit → Act → World → Prop := fun _ _ _ => False
def OnlyN (K : Act → World → Prop) : Exit → Act → World → Prop
  | .normal => K
  | _ => fun _ _ => False
theorem lets_noQ : ¬ LetsOut NoQ := fun ⟨_, _, h⟩ => h
theorem lets_onlyN {K : Act → World → Prop} : ¬ LetsOut (OnlyN K) := fun ⟨_, _, h⟩ => h
theorem wp_swap {o : Oper} {a : Act} {w : World} {K : Act → World → Prop} (h : o.wp P a w K NoQ) : o.wp P a w K Q := by
  unfold Oper.wp at *
  generalize (execOp a.eval o).run P w = r at *
  cases r with
  | ok n w' =>
    cases n <;> simp only [Oper.upon] at h ⊢ <;>
      first
        | exact h
        | exact Calls.mono h (fun e w'' he => by cases e with
            | returned v => exact he
            | panicked c => exact he.elim
            | outgrown => exact absurd he lets_noQ)
  | halt x w' =>
    cases x <;> simp only [Oper.upon] at h ⊢ <;> first | exact h | exact h.elim
theorem wp_onlyN {o : Oper} {a : Act} {w : World} {K K' : Act → World → Prop} (h : o.wp P a w K (OnlyN K')) : o.wp P a w K NoQ := by
  unfold Oper.wp at *
  generalize (execOp a.eval o).run P w = r at *
  cases r with
  | ok n w' =>
    cases n <;> simp only [Oper.upon] at h ⊢ <;>
      first
        | exact h
        | exact Calls.mono h (fun e w'' he => by cases e with
            | returned v => exact he
            | panicked c => exact he.elim
            | outgrown => exact absurd he lets_onlyN)
  | halt x w' =>
    cases x <;> simp only [Oper.upon] at h ⊢ <;> first | exact h | exact h.elim
theorem op_swap {i : Nat} {a : Act} {w : World} {K : Act → World → Prop} (h : wpOp P ops NoQ i K a w) : wpOp P ops Q i K a w := by
  unfold wpOp at *
  split
  · rename_i e; simp only [e] at h; exact h
  · rename_i o e
    simp only [e] at h
    split
    · rename_i hw
      simp only [hw, if_true] at h
      rcases h with h | ⟨_, h⟩
      · exact .inl (wp_swap h)
      · exact absurd h lets_noQ
    · rename_i hw; simp only [hw] at h; exact h

/-- Whatever order is picked, as long as operations of the head are left; S holds behind each of them. -/
def wpHL (P : Program) (md : Region.Mode) (ops : Array Oper) (S : World → Prop) (n : Nat) (L : Array Bool → Act → World → Prop) : Nat → Array Bool → Act → World → Prop
  | 0, listed, a, w => L listed a w
  | f + 1, listed, a, w =>
    Region.ready md ops listed ≠ [] ∧ ∀ i ∈ Region.ready md ops listed, i < n ∧ wpOp P ops NoQ i (fun a' w' => S w' ∧ wpHL P md ops S n L f (listed.setIfInBounds i true) a' w') a w
theorem any_of_hl {n g : Nat} {L : Array Bool → Act → World → Prop} (hL : ∀ listed a w, L listed a w → wpAny P md ops Q g listed a w) :
    ∀ (f : Nat) (listed : Array Bool) (a : Act) (w : World), wpHL P md ops S n L f listed a w → wpAny P md ops Q (f + g) listed a w
  | 0, listed, a, w, h => by rw [Nat.zero_add]; exact hL _ _ _ h
  | f + 1, listed, a, w, h => by
    rw [show f + 1 + g = (f + g) + 1 by omega]
    exact ⟨fun h0 => absurd h0 h.1, fun i hi => op_swap (wpOp_mono (fun a' w' h' => any_of_hl hL f _ a' w' h'.2) (h.2 i hi).2)⟩

def tailB (md : Region.Mode) (ops : Array Oper) (n : Nat) : Bool := Nat.beq n ops.size || (Region.sinkB md ops n && Region.chainB md ops n && Nat.blt n ops.size)
theorem tail_in {n : Nat} (h : tailB md ops n = true) {listed : Array Bool} (inv : HeadInv md ops n listed) {i : Nat} (hin : i < n) (hun : listed.getD i true = false) : ∀ j ∈ Region.ready md ops listed, j < n := by
  intro j hj
  unfold tailB at h
  rw [Bool.or_eq_true] at h
  rcases h with h | h
  · have e := Nat.eq_of_beq_eq_true h
    obtain ⟨_, o, ho, _⟩ := mem_ready.1 hj
    have := (Array.getElem?_eq_some_iff.1 ho).1
    omega
  · simp only [Bool.and_eq_true] at h
    rcases Nat.lt_or_ge j n with h' | h'
    · exact h'
    · exact absurd hj (tail_waits h.1.1 h.1.2 (by simpa [Nat.blt_eq] using h.2) inv _ i rfl hin hun j h')
theorem hl_first {n i : Nat} {oi : Oper} {v : Value} {L : Array Bool → Act → World → Prop} (hi : ops[i]? = some oi) (hsel : ∀ (j : Nat) (o : Oper) cs b, ops[j]? = some o → o.op ≠ .select cs b)
    (hn : tailB md ops n = true) (hin : i < n) (hdone : ∀ listed a w, L listed a w → ∀ j ∈ Region.ready md ops listed, n ≤ j) :
    ∀ (f : Nat) (listed : Array Bool) (a : Act) (w : World), HeadInv md ops n listed →
      (∀ j oj, ops[j]? = some oj → j ≠ i → listed.getD j true = false → (∀ e ∈ oj.after, Region.binds md e = true → e.on ≠ i) → oi.apart ops oj = true) →
      i ∈ Region.ready md ops listed → YieldsIf P ops S oi v a → S w →
      wpHL P md ops S n L f (listed.setIfInBounds i true) (a.put oi.dst v) w → wpHL P md ops S n L (f + 1) listed a w := by
  intro f
  induction f with
  | zero =>
    intro listed a w inv _ hr hy hS H
    have hun := (mem_ready.1 hr).1
    refine ⟨fun h => (by rw [h] at hr; cases hr), fun j hj => ?_⟩
    have hjn := tail_in hn inv hin hun j hj
    refine ⟨hjn, ?_⟩
    by_cases hji : j = i
    · subst hji; exact hy.wpOp hi hS ⟨hS, H⟩
    · have := hdone _ _ _ H j (ready_mono hj hji)
      omega
  | succ f ih =>
    intro listed a w inv hfree hr hy hS H
    have hun := (mem_ready.1 hr).1
    refine ⟨fun h => (by rw [h] at hr; cases hr), fun j hj => ?_⟩
    have hjn := tail_in hn inv hin hun j hj
    refine ⟨hjn, ?_⟩
    by_cases hji : j = i
    · subst hji; exact hy.wpOp hi hS ⟨hS, H⟩
    · have h1 := (H.2 j (ready_mono hj hji)).2
      obtain ⟨hjun, oj, hoj, hall⟩ := mem_ready.1 hj
      have hnot : ∀ e ∈ oj.after, Region.binds md e = true → e.on ≠ i := fun e he hb heq => by
        have h1 := hall e he hb
        rw [heq, getD_both hun] at h1
        cases h1
      have h2 := wpOp_putIf hoj (hfree j oj hoj hji hjun hnot) (fun cs b => hsel i oi cs b hi) (fun cs b => hsel j oj cs b hoj) (fun _ _ _ h => h.elim) hy h1
      have hfree' : ∀ k ok, ops[k]? = some ok → k ≠ i → (listed.setIfInBounds j true).getD k true = false →
          (∀ e ∈ ok.after, Region.binds md e = true → e.on ≠ i) → oi.apart ops ok = true := fun k ok hk hki hun hno => by
        refine hfree k ok hk hki ?_ hno
        by_cases hjk : j = k
        · subst hjk; exact hjun
        · rw [getD_set_ne true hjk] at hun; exact hun
      refine wpOp_mono (fun a' w' h3 => ⟨h3.2.1, ih (listed.setIfInBounds j true) a' w' (inv.set hj hjn) hfree' (ready_mono hr (Ne.symm hji)) h3.1 h3.2.1 ?_⟩) h2
      rw [Array.setIfInBounds_comm _ _ hji]
      exact h3.2.2

/-- Is it an operation that leaves the world alone by its form? -/
def stillOp : Op → Bool
  | .move _ | .assign _ | .pick .. | .load .. | .nilCheck _ | .binOp .. | .unOp .. | .makeInterface .. | .makeFunc .. | .slice .. | .fieldAddr .. | .field .. | .indexAddr .. | .index .. | .extract .. | .build .. | .lookup .. | .convert .. | .typeAssert .. => true
  | .call c => match c.callee with
    | .builtin .len => true
    | .builtin .cap => true
    | .builtin .min => true
    | .builtin .max => true
    | _ => false
  | _ => false
/-- The head's operations in the order of the list: those that leave the world alone are taken first. -/
def wpHeld (P : Program) (ops : Array Oper) (S : World → Prop) (F : Act → World → Prop) : List Oper → Act → World → Prop
  | [], a, w => F a w
  | o :: l, a, w => bif stillOp o.op then ∃ v, YieldsIf P ops S o v a ∧ wpHeld P ops S F l (a.put o.dst v) w
      else wpList P ops (OnlyN fun a' w' => S w' ∧ wpHeld P ops S F l a' w') [o] a w
def headB (md : Region.Mode) (ops : Array Oper) (n : Nat) : List Nat → Array Bool → Bool
  | [], listed => Region.seqB md ops (ops.size - n) n listed
  | k :: ks, listed => Nat.blt k n && (match ops[k]? with
      | some o => bif stillOp o.op then (Region.ready md ops listed).contains k && Region.free md ops listed k else decide (Region.ready md ops listed = [k])
      | none => false) && headB md ops n ks (listed.setIfInBounds k true)
def heldB (ops : Array Oper) (n : Nat) (ord : List Nat) : Bool := Region.noSelect ops && tailB .any ops n && Nat.beq ord.length n && headB .any ops n ord (Array.replicate ops.size false)
def nth : List Oper → Nat → Oper
  | [], _ => ⟨none, .move (.tmp 0), 0, "", #[], none⟩
  | o :: _, 0 => o
  | _ :: l, i + 1 => nth l i
def pickL (l : List Oper) : List Nat → List Oper
  | [] => []
  | i :: is => nth l i :: pickL l is
theorem nth_eq : ∀ (l : List Oper) (i : Nat) (o : Oper), l[i]? = some o → nth l i = o
  | [], i, o, h => by simp at h
  | x :: l, 0, o, h => by simpa [nth] using h
  | x :: l, i + 1, o, h => nth_eq l i o (by simpa using h)
theorem hl_held {l : List Oper} {n : Nat} {F : Act → World → Prop} (hsel : Region.noSelect l.toArray = true) (hn : tailB md l.toArray n = true) :
    ∀ (ord : List Nat) (listed : Array Bool) (a : Act) (w : World), HeadInv md l.toArray n listed → headB md l.toArray n ord listed = true → S w → wpHeld P l.toArray S F (pickL l ord) a w →
    wpHL P md l.toArray S n (fun listed' a' w' => Region.seqB md l.toArray (l.toArray.size - n) n listed' = true ∧ F a' w') ord.length listed a w
  | [], listed, a, w, _, hB, _, h => ⟨hB, h⟩
  | k :: ks, listed, a, w, inv, hB, hS, h => by
    simp only [headB, Bool.and_eq_true] at hB
    obtain ⟨⟨hk, hm⟩, hB'⟩ := hB
    have hkn : k < n := by simpa [Nat.blt_eq] using hk
    cases ho : l.toArray[k]? with
    | none => simp only [ho] at hm; cases hm
    | some o =>
      have hnth := nth_eq l k o (by simpa using ho)
      simp only [ho] at hm
      rw [pickL, hnth] at h
      unfold wpHeld at h
      cases hst : stillOp o.op with
      | true =>
        rw [hst] at hm h
        simp only [cond_true, Bool.and_eq_true] at hm h
        obtain ⟨v, hy, hK⟩ := h
        have hr : k ∈ Region.ready md l.toArray listed := by simpa using hm.1
        exact hl_first ho (Region.noSelect_spec hsel) hn hkn (fun listed' a' w' hL => seqB_ready hL.1) ks.length listed a w inv (Region.free_spec ho hm.2) hr hy hS
          (hl_held hsel hn ks _ _ _ (inv.set hr hkn) hB' hS hK)
      | false =>
        rw [hst] at hm h
        simp only [cond_false, decide_eq_true_eq] at hm h
        refine ⟨by rw [hm]; simp, fun i hi => ?_⟩
        have hr : k ∈ Region.ready md l.toArray listed := by rw [hm]; simp
        rw [hm] at hi
        have hik : i = k := by simpa using hi
        subst hik
        refine ⟨hkn, ?_⟩
        unfold wpOp
        simp only [ho]
        unfold wpList at h
        split
        · rename_i hw
          rw [if_pos hw] at h
          rcases h with h | ⟨_, h⟩
          · refine .inl (Oper.wp_mono (fun a' w' h' => ?_) (wp_onlyN h))
            exact ⟨h'.1, hl_held hsel hn ks _ _ _ (inv.set hr hkn) hB' h'.1 h'.2⟩
          · exact absurd h lets_onlyN
        · rename_i hw
          rw [if_neg hw] at h
          exact ⟨h.1, hl_held hsel hn ks _ _ _ (inv.set hr hkn) hB' h.1 h.2⟩
end

section
variable {P : Program} {N : Nat} {env : Env} {w w' : World} {Q : Exit → Act → World → Prop} {ops : Array Oper} {rest : List Oper} {d : Nat} {op : Op} {ty : TypeId} {pos : String} {after : Array Edge} {v : Value} {S : World → Prop} {F : Act → World → Prop}
/-- A region that draws: its first n operations in the order ord, S behind each; then the rest, which comes in one order. -/
theorem j_held {id : Nat} {l : List Oper} (n : Nat) (ord : List Nat) (S : World → Prop) (hm : P.follows .mixedOrders = true) (hB : heldB l.toArray n ord = true)
    (h : ∀ w1, Below w.heap.size w w1 → w1.heap.size = w.heap.size → S w1 ∧ J N env w1 (wpHeld P l.toArray S (wpList P l.toArray Q (l.drop n)) (pickL l ord))) : J N env w (Code.wp P (.region id l.toArray true) Q) := by
  intro a ha
  obtain ⟨hS, hj⟩ := h w.drew (below_drew w) rfl
  simp only [heldB, Bool.and_eq_true] at hB
  obtain ⟨⟨⟨hsel, hn⟩, hlen⟩, hhead⟩ := hB
  have hlen' : ord.length = n := Nat.eq_of_beq_eq_true hlen
  have hle : n ≤ l.toArray.size := by
    unfold tailB at hn
    rw [Bool.or_eq_true] at hn
    rcases hn with hn | hn
    · exact Nat.le_of_eq (Nat.eq_of_beq_eq_true hn)
    · simp only [Bool.and_eq_true] at hn
      have : n < l.toArray.size := by simpa [Nat.blt_eq] using hn.2
      omega
  have inv0 : HeadInv .any l.toArray n (Array.replicate l.toArray.size false) :=
    ⟨by simp, fun j oj _ hl => (by rw [getD_replicate_false] at hl; cases hl), fun t _ ht => getD_in (by simpa using ht) (getD_replicate_false _ _)⟩
  have H := hl_held hsel hn ord _ a w.drew inv0 hhead hS (hj a ha)
  have hdl : (l.drop n).length = l.toArray.size - n := by simp
  refine wp_region_any hm ?_
  have := any_of_hl (Q := Q) (g := l.toArray.size - n) (fun listed a' w' hL => by
    have := wpAny_of_seq (md := .any) (Q' := Q) (l.drop n) n listed a' w' (fun j => by simp [List.getElem?_drop]) (by rw [hdl]; exact hL.1) hL.2
    rwa [hdl] at this) _ _ _ _ H
  rw [hlen', show n + (l.toArray.size - n) = l.toArray.size by omega] at this
  exact this
theorem jh_op (hst : stillOp op = true) (hd : Nat.blt d N = true) (hv : ∀ w', S w' → OV P env op w' v) (h : J N ((d, v) :: env) w (wpHeld P ops S F rest)) : J N env w (wpHeld P ops S F (⟨some d, op, ty, pos, after, none⟩ :: rest)) := by
  intro a ha
  unfold wpHeld
  simp only [hst, cond_true]
  exact ⟨v, .inl ⟨by simp [Region.wanted], fun w' hS => hv w' hS a.eval (fun h => ha.ev h) _ rfl⟩, h _ (ha.put hd v)⟩
theorem jh_yes {j : Nat} {want : Bool} {oj : Oper} {dj : Nat} (hst : stillOp op = true) (hj : ops[j]? = some oj) (hdj : oj.dst = some dj) (hl : look env dj = some (.bool want)) (hd : Nat.blt d N = true) (hv : ∀ w', S w' → OV P env op w' v) (h : J N ((d, v) :: env) w (wpHeld P ops S F rest)) :
    J N env w (wpHeld P ops S F (⟨some d, op, ty, pos, after, some (j, want)⟩ :: rest)) := by
  intro a ha
  unfold wpHeld
  simp only [hst, cond_true]
  exact ⟨v, .inl ⟨by rw [wanted_of rfl hj hdj ha hl]; simp, fun w' hS => hv w' hS a.eval (fun h => ha.ev h) _ rfl⟩, h _ (ha.put hd v)⟩
theorem jh_no {j : Nat} {want b : Bool} {oj : Oper} {dj : Nat} (hst : stillOp op = true) (hj : ops[j]? = some oj) (hdj : oj.dst = some dj) (hl : look env dj = some (.bool b)) (hb : (b == want) = false) (hd : Nat.blt d N = true) (h : J N ((d, undef) :: env) w (wpHeld P ops S F rest)) :
    J N env w (wpHeld P ops S F (⟨some d, op, ty, pos, after, some (j, want)⟩ :: rest)) := by
  intro a ha
  unfold wpHeld
  simp only [hst, cond_true]
  exact ⟨undef, .inr ⟨by rw [wanted_of rfl hj hdj ha hl, hb], rfl⟩, h _ (ha.put hd undef)⟩
theorem jh_undef {j : Nat} {want : Bool} {oj : Oper} {dj : Nat} (hst : stillOp op = true) (hj : ops[j]? = some oj) (hdj : oj.dst = some dj) (hl : look env dj = some undef) (hd : Nat.blt d N = true) (h : J N ((d, undef) :: env) w (wpHeld P ops S F rest)) :
    J N env w (wpHeld P ops S F (⟨some d, op, ty, pos, after, some (j, want)⟩ :: rest)) := by
  intro a ha
  unfold wpHeld
  simp only [hst, cond_true]
  exact ⟨undef, .inr ⟨wanted_undef rfl hj hdj ha hl, rfl⟩, h _ (ha.put hd undef)⟩
/-- An operation that may turn the world: by the laws for a plain list. -/
theorem jh_run {o : Oper} (hst : stillOp o.op = false) (h : J N env w (wpList P ops (OnlyN fun a' w' => S w' ∧ wpHeld P ops S F rest a' w') [o])) : J N env w (wpHeld P ops S F (o :: rest)) := by
  intro a ha
  unfold wpHeld
  simp only [hst, cond_false]
  exact h a ha
theorem jh_back (hS : S w) (h : J N env w (wpHeld P ops S F rest)) : J N env w (wpList P ops (OnlyN fun a' w' => S w' ∧ wpHeld P ops S F rest a' w') []) := fun a ha => ⟨hS, h a ha⟩
theorem jh_nil (h : J N env w F) : J N env w (wpHeld P ops S F []) := h

theorem ov_build {t : TypeId} {parts : Array (Nat × Operand)} {vs : List Value} {cells : Array Value} (hx : evs env (parts.toList.map (·.2)) = some vs) (hb : P.built t ((parts.toList.map (·.1)).zip vs) = some cells) : OV P env (.build t parts) w (.agg cells) := by
  intro ρ hρ o ho; unfold execOp; rw [ho]
  have e : (parts.map fun (i, x) => (i, ρ x)).toList = (parts.toList.map (·.1)).zip vs := by
    have key : ∀ (l : List (Nat × Operand)) (vs : List Value), evs env (l.map (·.2)) = some vs → l.map (fun (i, x) => (i, ρ x)) = (l.map (·.1)).zip vs := by
      intro l
      induction l with
      | nil => intro vs h; simp [evs] at h; simp
      | cons x l ih =>
        intro vs h
        simp only [List.map_cons] at h
        unfold evs at h
        split at h
        · rename_i v us hv hus
          simp at h; subst h
          simp [hρ hv, ih us hus]
        · cases h
    simpa using key _ _ hx
  have := run_build (P := P) w t (parts.map fun (i, x) => (i, ρ x)) cells (by rw [e]; exact hb)
  simp [this]
/-- A slice literal of one element. -/
theorem j_one {x : Operand} {t e : TypeId} {z : Value} {size bytes : Nat} [ht : TElem P t e] [hi : TInfo P e z size bytes] (hd : Nat.blt d N = true) (hx : evx env x = some v) (hs : v.cells.size = size) (hzs : z.cells.size = size) (h0 : Nat.blt 0 size = true) (h1 : Nat.ble size 16777216 = true)
    (h : ∀ w', Blk w' w.heap.size v.cells.toList e → Below w.heap.size w w' → w'.heap.size = w.heap.size + 1 → J N ((d, .slice (some ⟨w.heap.size, 0, none⟩) 1 1) :: env) w' (wpList P ops Q rest)) :
    J N env w (wpList P ops Q (⟨some d, .buildSlice t 1 #[(0, x)], ty, pos, after, none⟩ :: rest)) := by
  have h0' : 0 < size := Nat.blt_eq ▸ h0
  have h1' := Nat.le_of_ble_eq_true h1
  obtain ⟨i, hi1, hi2, hi3, hi4⟩ := info_parts hi.eq
  refine j_ev hd (w' := w.alloc (.cells v.cells.toList.toArray e)) ?_ (h _ (by unfold Blk; show (w.heap.push _)[w.heap.size]? = _; simp) ((Below.refl _ _).alloc (Nat.le_refl _) _) (by simp))
  intro ρ hρ o ho; unfold execOp; rw [ho]
  have hz : z.cells.size = size := hzs
  have hfill : Instr.fill (fun k => some (k * size, size)) ((Array.range (1 * size)).map (fun k => z.cells[k % z.cells.size]!)) [(0, v)] = some v.cells := by
    unfold Instr.fill
    simp only [hs, ne_eq, not_true_eq_false, decide_false, Bool.false_or]
    rw [if_neg (by simp)]
    unfold Instr.fill
    congr 1
    have key : ∀ (l : List Value) (k : Nat) (cs : Array Value), cs.size = k + l.length → (l.zipIdx k).foldl (fun cs (x : Value × Nat) => cs.setIfInBounds x.2 x.1) cs = (cs.toList.take k ++ l).toArray := by
      intro l
      induction l with
      | nil =>
        intro k cs h
        simp at h
        simp [← h, List.take_of_length_le]
      | cons x l ih =>
        intro k cs h
        simp only [List.zipIdx_cons, List.foldl_cons]
        simp only [List.length_cons] at h
        rw [ih (k + 1) _ (by simp; omega)]
        have hk : k < cs.toList.length := by simp; omega
        have : (cs.setIfInBounds k x).toList.take (k + 1) = cs.toList.take k ++ [x] := by
          rw [Array.toList_setIfInBounds, List.take_add_one]
          simp only [List.getElem?_set_self hk, Option.toList_some]
          rw [List.take_set_of_le (Nat.le_refl _)]
        rw [this]; simp
    have := key v.cells.toList 0 ((Array.range (1 * size)).map (fun k => z.cells[k % z.cells.size]!)) (by simp [hs])
    simp only [List.take_zero, List.nil_append] at this
    rw [← Array.foldl_toList] 
    simpa using this
  have hsz : (sizeOf e).run P w = .ok size w := by simp [sizeOf, typeInfo, hi1, hi3]
  have hzz : (zeroValue e).run P w = .ok z w := by simp [zeroValue, typeInfo, hi1, hi2]
  have hnz : ¬ 1 * size = 0 := by omega
  have hns : ¬ 1 * size > 2 ^ 24 := by omega
  simp only [Instr.buildSlice, Sem.run_bind, run_underlying ht.eq, Result.andThen_ok, hsz, if_neg hns, if_neg hnz, hzz, Sem.run_pure]
  simp only [List.map_toArray, List.map_cons, List.map_nil, hρ hx, hfill, newRow, newObj]
  simp
  rfl
end
/-! Rows of the call's own. -/
theorem own_ge {w : World} {base : Nat} {e : TypeId} {sz n : Nat} {v : Value} {xs : List Value} (h : w.ownsRow base e sz v n xs) : ∀ b, v.ownBlock = some b → base ≤ b := by
  intro b hb
  rcases h.2 with ⟨rfl, _⟩ | ⟨g, cap, cur, rfl, hg, _⟩
  · simp [Value.ownBlock] at hb
  · simp [Value.ownBlock] at hb; omega
theorem own_none (w : World) (base : Nat) (e : TypeId) (sz : Nat) : w.ownsRow base e sz (.slice none 0 0) 0 [] := ⟨by simp, .inl ⟨rfl, rfl⟩⟩
theorem own_kept {w w' : World} {base : Nat} {e : TypeId} {sz n : Nat} {v : Value} {xs : List Value} (h : w.ownsRow base e sz v n xs) {row : Option Nat} (hg : w.grownBy w' row) (hr : v.ownBlock = none ∨ v.ownBlock ≠ row) : w'.ownsRow base e sz v n xs := h.kept hg hr
theorem own_ext {w w' : World} {base : Nat} {e : TypeId} {sz n : Nat} {v : Value} {xs : List Value} (h : w.ownsRow base e sz v n xs) (hb : Below w.heap.size w w') : w'.ownsRow base e sz v n xs := by
  refine h.kept (row := none) (grownBy_of_below hb) ?_
  cases h2 : v.ownBlock <;> simp
theorem own_ne {w : World} {base b : Nat} {e : TypeId} {sz n : Nat} {v : Value} {xs : List Value} (h : w.ownsRow base e sz v n xs) (hb : b < base) : some b ≠ v.ownBlock := by
  intro e
  have := own_ge h b e.symm
  omega
theorem own_ne' {w : World} {base b : Nat} {e : TypeId} {sz n : Nat} {v : Value} {xs : List Value} (h : w.ownsRow base e sz v n xs) (hb : b < base) : v.ownBlock = none ∨ v.ownBlock ≠ some b :=
  .inr fun e => own_ne h hb e.symm
theorem below_own {B : Nat} {w w1 w2 w3 : World} {base : Nat} {e : TypeId} {sz n : Nat} {v : Value} {xs : List Value} (h : w1.ownsRow base e sz v n xs) (hx : Below B w w2) (hg : w2.grownBy w3 v.ownBlock) (hB : B ≤ base) (hs : B ≤ w2.heap.size) : Below B w w3 := by
  cases hv : v.ownBlock with
  | none => rw [hv] at hg; exact hx.trans ⟨hg.os, hg.tape, hg.output, hg.size, fun k hk => hg.block k (by omega) (by simp)⟩
  | some b => rw [hv] at hg; exact hx.trans (below_of_grownBy hg (Nat.le_trans hB (own_ge h b hv)) hs)
theorem own_one {w : World} {base : Nat} {e : TypeId} {sz n : Nat} {v : Value} {xs : List Value} (h : w.ownsRow base e sz v n xs) : v.oneCell' = true := by
  rcases h.2 with ⟨rfl, _⟩ | ⟨_, _, _, rfl, _⟩ <;> rfl
theorem own_slice {w : World} {base : Nat} {e : TypeId} {sz n : Nat} {v : Value} {xs : List Value} (h : w.ownsRow base e sz v n xs) : ∃ ea cap, v = .slice ea n cap := by
  rcases h.2 with ⟨rfl, hn⟩ | ⟨g, cap, cur, rfl, _⟩
  · rw [hn]; exact ⟨_, _, rfl⟩
  · exact ⟨_, _, rfl⟩
theorem own_lt {w : World} {base : Nat} {e : TypeId} {sz n : Nat} {v : Value} {xs : List Value} (h : w.ownsRow base e sz v n xs) : ∀ b, v.ownBlock = some b → b < w.heap.size := by
  intro b hb
  rcases h.2 with ⟨rfl, _⟩ | ⟨g, cap, cur, rfl, _, hg, _⟩
  · simp [Value.ownBlock] at hb
  · have := (Array.getElem?_eq_some_iff.1 hg).1
    simp [Value.ownBlock] at hb; omega
theorem own_far' {w : World} {base b : Nat} {e : TypeId} {sz n : Nat} {v : Value} {xs : List Value} (h : w.ownsRow base e sz v n xs) (hb : w.heap.size ≤ b) : some b ≠ v.ownBlock := by
  intro e
  have := own_lt h b e.symm
  omega
theorem own_far {w : World} {base b : Nat} {e : TypeId} {sz n : Nat} {v : Value} {xs : List Value} (h : w.ownsRow base e sz v n xs) (hb : w.heap.size ≤ b) : v.ownBlock = none ∨ v.ownBlock ≠ some b :=
  .inr fun e => own_far' h hb e.symm
/-- Block b is a row of type t. -/
def BlkT (w : World) (b : Nat) (t : TypeId) : Prop := ∃ cs fz, w.heap[b]? = some (.cells cs t fz)
theorem BlkT.lt {w : World} {b : Nat} {t : TypeId} (h : BlkT w b t) : b < w.heap.size := by
  obtain ⟨cs, fz, h⟩ := h
  exact (Array.getElem?_eq_some_iff.1 h).1
theorem BlkT.keep {w w' : World} {b : Nat} {t : TypeId} {row : Option Nat} (h : BlkT w b t) (hg : w.grownBy w' row) (hne : some b ≠ row) : BlkT w' b t := by
  have hl := h.lt
  obtain ⟨cs, fz, h⟩ := h
  exact ⟨cs, fz, (hg.block b hl hne).trans h⟩
theorem BlkT.ext {w w' : World} {b : Nat} {t : TypeId} (h : BlkT w b t) (hb : Below w.heap.size w w') : BlkT w' b t := h.keep (row := none) (grownBy_of_below hb) (by simp)
theorem BlkT.ne {w : World} {b c : Nat} {t u : TypeId} (h : BlkT w b t) (h' : BlkT w c u) (hne : t ≠ u) : b ≠ c := by
  intro e
  subst e
  obtain ⟨cs, fz, h⟩ := h
  obtain ⟨cs', fz', h'⟩ := h'
  rw [h] at h'
  injection h' with h'
  injection h' with _ h2 _
  exact hne h2
theorem Blk.ty {w : World} {b : Nat} {cs : List Value} {t : TypeId} (h : Blk w b cs t) : BlkT w b t := ⟨_, _, h⟩
theorem BlkT.of_own {w : World} {base : Nat} {e : TypeId} {sz n : Nat} {v : Value} {xs : List Value} (h : w.ownsRow base e sz v n xs) : ∀ g, v.ownBlock = some g → BlkT w g e := by
  intro b hb
  rcases h.2 with ⟨rfl, _⟩ | ⟨g, cap, cur, rfl, _, hg, _⟩
  · simp [Value.ownBlock] at hb
  · simp [Value.ownBlock] at hb
    subst hb; exact ⟨_, _, hg⟩
theorem cell_grown {w w' : World} {row : Option Nat} {a : Addr} {v : Value} (hg : w.grownBy w' row) (h : w.cell? a = some v) (hne : some a.block ≠ row) : w'.cell? a = some v := hg.cell h hne
theorem cell_ext {w w' : World} {a : Addr} {v : Value} (hb : Below w.heap.size w w') (h : w.cell? a = some v) : w'.cell? a = some v := cell_grown (row := none) (grownBy_of_below hb) h (by simp)
end Go.Proofs.YtddiecdoaggaaaaGreatDoor
