/- The engine over an abstract memory: what is known of memory is a list of own parts, and an elder world that is only read. No program. -/
import Derived.Test.YtddiecdoaggaaaaGreatDoorWalkJ
import Derived.Maps.AppendAt
namespace Go.Proofs.YtddiecdoaggaaaaGreatDoor
open Go.RowKit

/-- A part of memory: its blocks, whether it is elder than the call, and what holds of it. -/
structure Own where
  foot : Nat → Prop
  old : Bool
  p : World → Prop
  loc : ∀ w w' : World, (∀ b, foot b → w'.heap[b]? = w.heap[b]?) → p w → p w'

/-- Block b holds the cells cs. -/
def bk (f : Bool) (b : Nat) (cs : List Value) (t : TypeId) : Own := ⟨fun k => k = b, f, fun w => Blk w b cs t, fun _ _ h hp => (h b rfl).trans hp⟩
/-- The slice v is a row of its own of n elements. -/
def row (f : Bool) (v : Value) (n : Nat) (xs : List Value) (e : TypeId) (sz : Nat) : Own := ⟨fun k => v.ownBlock = some k, f, fun w => w.ownsRow 0 e sz v n xs, fun w w' h hp => by
  refine ⟨hp.1, ?_⟩
  rcases hp.2 with h1 | ⟨g, cap, cur, rfl, h2, h3, h4, h5, h6, h7⟩
  · exact .inl h1
  · exact .inr ⟨g, cap, cur, rfl, h2, (h g rfl).trans h3, h4, h5, h6, h7⟩⟩

structure Sat (r : World) (O : List Own) (w : World) : Prop where
  os : w.os = r.os
  tape : w.tape = r.tape
  output : w.output = r.output
  size : r.heap.size ≤ w.heap.size
  agree : ∀ k, k < r.heap.size → (∀ o ∈ O, o.old = true → ¬ o.foot k) → w.heap[k]? = r.heap[k]?
  all : ∀ o ∈ O, o.p w ∧ ∀ b, o.foot b → b < w.heap.size ∧ (o.old = false → r.heap.size ≤ b)
  disj : O.Pairwise fun a b => ∀ k, ¬ (a.foot k ∧ b.foot k)

def noOld (O : List Own) : Bool := O.all fun o => !o.old
def nthO : List Own → Nat → Option Own
  | [], _ => none
  | o :: _, 0 => some o
  | _ :: l, i + 1 => nthO l i
theorem nthO_mem : ∀ {O : List Own} {i : Nat} {o : Own}, nthO O i = some o → o ∈ O
  | [], _, _, h => by cases h
  | _ :: _, 0, _, h => by simp only [nthO, Option.some.injEq] at h; simp [h]
  | _ :: l, i + 1, _, h => List.mem_cons_of_mem _ (nthO_mem (O := l) (i := i) h)

section
variable {r w w' : World} {O : List Own}
theorem Sat.refl (w : World) : Sat w [] w := ⟨rfl, rfl, rfl, Nat.le_refl _, fun _ _ _ => rfl, by simp, .nil⟩
theorem Sat.below (h : Sat r O w) (hn : noOld O = true) : Below r.heap.size r w := by
  refine ⟨h.os, h.tape, h.output, h.size, fun k hk => h.agree k hk fun o ho hold => ?_⟩
  have := List.all_eq_true.1 hn o ho
  rw [hold] at this; cases this
theorem Sat.get (h : Sat r O w) (i : Nat) {o : Own} (hi : nthO O i = some o) : o.p w := (h.all o (nthO_mem hi)).1
theorem Sat.blk (h : Sat r O w) (i : Nat) {f : Bool} {b : Nat} {cs : List Value} {t : TypeId} (hi : nthO O i = some (bk f b cs t)) : Blk w b cs t := h.get i hi
theorem Sat.row (h : Sat r O w) (i : Nat) {f : Bool} {v : Value} {n : Nat} {xs : List Value} {e : TypeId} {sz : Nat} (hi : nthO O i = some (row f v n xs e sz)) : w.ownsRow 0 e sz v n xs := h.get i hi
theorem Sat.ext (h : Sat r O w) (hb : Below w.heap.size w w') : Sat r O w' := by
  refine ⟨hb.os.trans h.os, hb.tape.trans h.tape, hb.output.trans h.output, Nat.le_trans h.size hb.size, fun k hk ho => ?_, fun o ho => ?_, h.disj⟩
  · rw [hb.block k (Nat.lt_of_lt_of_le hk h.size)]; exact h.agree k hk ho
  · obtain ⟨h1, h2⟩ := h.all o ho
    refine ⟨o.loc w w' (fun b hf => hb.block b (h2 b hf).1) h1, fun b hf => ?_⟩
    obtain ⟨h3, h4⟩ := h2 b hf
    exact ⟨Nat.lt_of_lt_of_le h3 hb.size, h4⟩
theorem Sat.add (h : Sat r O w) (hb : Below w.heap.size w w') {o : Own} (hp : o.p w') (hf : ∀ b, o.foot b → w.heap.size ≤ b ∧ b < w'.heap.size) (ho : o.old = false) : Sat r (o :: O) w' := by
  have h' := h.ext hb
  refine ⟨h'.os, h'.tape, h'.output, h'.size, fun k hk hh => h'.agree k hk fun o' ho' => hh o' (List.mem_cons_of_mem _ ho'), fun o' ho' => ?_, List.Pairwise.cons (fun o' ho' k hk => ?_) h'.disj⟩
  · rcases List.mem_cons.1 ho' with rfl | ho'
    · exact ⟨hp, fun b hb' => ⟨(hf b hb').2, fun _ => Nat.le_trans h.size (hf b hb').1⟩⟩
    · exact h'.all o' ho'
  · have h1 := (hf k hk.1).1
    have h2 := ((h.all o' ho').2 k hk.2).1
    omega
/-- One part is written. -/
theorem Sat.upd {A C : List Own} {o o' : Own} (h : Sat r (A ++ o :: C) w) (hos : w'.os = w.os) (htape : w'.tape = w.tape) (hout : w'.output = w.output) (hsz : w.heap.size ≤ w'.heap.size) (hb : ∀ k, k < w.heap.size → ¬ o.foot k → w'.heap[k]? = w.heap[k]?)
    (hp : o'.p w') (hf : ∀ b, o'.foot b → (o.foot b ∨ w.heap.size ≤ b) ∧ b < w'.heap.size) (ho : o'.old = o.old) (hoo : o.old = true → ∀ b, o.foot b → o'.foot b) : Sat r (A ++ o' :: C) w' := by
  have hmem : o ∈ A ++ o :: C := by simp
  have hdis : ∀ x, x ∈ A ∨ x ∈ C → ∀ k, ¬ (x.foot k ∧ o.foot k) := by
    have hd := h.disj
    rw [List.pairwise_append] at hd
    intro x hx k hk
    rcases hx with hx | hx
    · exact hd.2.2 x hx o (by simp) k hk
    · have := (List.pairwise_cons.1 hd.2.1).1 x hx k
      exact this ⟨hk.2, hk.1⟩
  refine ⟨hos.trans h.os, htape.trans h.tape, hout.trans h.output, Nat.le_trans h.size hsz, fun k hk hh => ?_, fun x hx => ?_, ?_⟩
  · have hno : ¬ o.foot k := by
      intro hfk
      cases hold : o.old with
      | true => exact hh o' (by simp) (ho.trans hold) (hoo hold k hfk)
      | false =>
        have := ((h.all o hmem).2 k hfk).2 hold
        omega
    rw [hb k (Nat.lt_of_lt_of_le hk h.size) hno]
    refine h.agree k hk fun x hx hxo => ?_
    rcases List.mem_append.1 hx with hx | hx
    · exact hh x (by simp [hx]) hxo
    · rcases List.mem_cons.1 hx with rfl | hx
      · exact hno
      · exact hh x (by simp [hx]) hxo
  · have key : x ∈ A ∨ x ∈ C → x.p w' ∧ ∀ b, x.foot b → b < w'.heap.size ∧ (x.old = false → r.heap.size ≤ b) := by
      intro hx
      have hx' : x ∈ A ++ o :: C := by rcases hx with hx | hx <;> simp [hx]
      obtain ⟨h1, h2⟩ := h.all x hx'
      refine ⟨x.loc w w' (fun b hfb => hb b (h2 b hfb).1 fun hob => hdis x hx b ⟨hfb, hob⟩) h1, fun b hfb => ?_⟩
      obtain ⟨h3, h4⟩ := h2 b hfb
      exact ⟨Nat.lt_of_lt_of_le h3 hsz, h4⟩
    rcases List.mem_append.1 hx with hx | hx
    · exact key (.inl hx)
    · rcases List.mem_cons.1 hx with rfl | hx
      · refine ⟨hp, fun b hfb => ⟨(hf b hfb).2, fun hold => ?_⟩⟩
        rcases (hf b hfb).1 with h1 | h1
        · exact ((h.all o hmem).2 b h1).2 (ho.symm.trans hold)
        · exact Nat.le_trans h.size h1
      · exact key (.inr hx)
  · have hd := h.disj
    rw [List.pairwise_append] at hd ⊢
    have hnew : ∀ x, x ∈ A ∨ x ∈ C → ∀ k, ¬ (x.foot k ∧ o'.foot k) := by
      intro x hx k hk
      rcases (hf k hk.2).1 with h1 | h1
      · exact hdis x hx k ⟨hk.1, h1⟩
      · have hx' : x ∈ A ++ o :: C := by rcases hx with hx | hx <;> simp [hx]
        have := ((h.all x hx').2 k hk.1).1
        omega
    refine ⟨hd.1, List.Pairwise.cons (fun x hx k hk => hnew x (.inr hx) k ⟨hk.2, hk.1⟩) (List.pairwise_cons.1 hd.2.1).2, fun x hx y hy k hk => ?_⟩
    rcases List.mem_cons.1 hy with rfl | hy
    · exact hnew x (.inl hx) k hk
    · exact hd.2.2 x hx y (by simp [hy]) k hk

/-- One elder block alone may have been written. -/
theorem Sat.grown {b : Nat} {cs : List Value} {t : TypeId} (h : Sat r O w) (hO : (O.filter fun o => o.old) = [bk true b cs t]) : r.grownBy w (some b) := by
  refine ⟨h.os, h.tape, h.output, h.size, fun k hk hne => h.agree k hk fun o ho hold hf => ?_⟩
  have : o ∈ O.filter fun o => o.old := by simp [ho, hold]
  rw [hO] at this
  simp only [List.mem_singleton] at this
  subst this
  exact hne (by rw [(hf : k = b)])

inductive SubO : List Own → List Own → Prop
  | nil : SubO [] []
  | keep {a b : List Own} {o : Own} : SubO a b → SubO (o :: a) (o :: b)
  | drop {a b : List Own} {o : Own} : o.old = false → SubO a b → SubO a (o :: b)
theorem SubO.rfl : ∀ (a : List Own), SubO a a
  | [] => .nil
  | _ :: a => .keep (SubO.rfl a)
theorem SubO.sublist {a b : List Own} (h : SubO a b) : a.Sublist b := by
  induction h with
  | nil => exact .slnil
  | keep _ ih => exact ih.cons_cons _
  | drop _ _ ih => exact ih.cons _
theorem SubO.olds {a b : List Own} (h : SubO a b) : ∀ o ∈ b, o.old = true → o ∈ a := by
  induction h with
  | nil => simp
  | keep _ ih =>
    intro o ho hold
    rcases List.mem_cons.1 ho with rfl | ho
    · simp
    · simp [ih o ho hold]
  | drop hf _ ih =>
    intro o ho hold
    rcases List.mem_cons.1 ho with rfl | ho
    · rw [hf] at hold; cases hold
    · exact ih o ho hold
theorem Sat.sub {O' : List Own} (h : Sat r O w) (hs : SubO O' O) : Sat r O' w :=
  ⟨h.os, h.tape, h.output, h.size, fun k hk hh => h.agree k hk fun o ho hold => hh o (hs.olds o ho hold) hold, fun o ho => h.all o (hs.sublist.subset ho), h.disj.sublist hs.sublist⟩
/-- A block of the elder world that the call may write. -/
theorem Sat.open {b : Nat} {cs : List Value} {t : TypeId} (h : Sat r O w) (hn : noOld O = true) (hb : Blk r b cs t) : Sat r (bk true b cs t :: O) w := by
  have hB := h.below hn
  have hb' := hb.ext hB
  refine ⟨h.os, h.tape, h.output, h.size, fun k hk _ => hB.block k hk, fun o ho => ?_, List.Pairwise.cons (fun o ho k hk => ?_) h.disj⟩
  · rcases List.mem_cons.1 ho with rfl | ho
    · exact ⟨hb', fun k hk => by cases (hk : k = b); exact ⟨hb'.lt, fun hf => by cases hf⟩⟩
    · exact h.all o ho
  · cases (hk.1 : k = b)
    have h1 := List.all_eq_true.1 hn o ho
    have h2 := ((h.all o ho).2 _ hk.2).2 (by simpa using h1)
    have := hb.lt
    omega
end

/-! Division of what is not negative. -/
theorem ov_quo0 {P : Program} {env : Env} {w : World} {x y : Operand} {t t' : TypeId} {a b : Int} (hx : evx env x = some (.int .i64 a)) (hy : evx env y = some (.int .i64 b)) (h0 : 0 ≤ a) (hb : 0 < b) (hm : a ≤ 9223372036854775807) : OV P env (.binOp .quo t x y t') w (.int .i64 (a / b)) := by
  have := ov_quow (P := P) (w := w) (t := t) (t' := t') hx hy (by omega)
  rw [Int.tdiv_eq_ediv_of_nonneg h0] at this
  have h1 : 0 ≤ a / b := Int.ediv_nonneg h0 (by omega)
  have h2 : a / b ≤ a := Int.ediv_le_self _ h0
  generalize a / b = q at this h1 h2 ⊢
  rw [show IntKind.wrap .i64 q = q from IntWalk.i64_in _ ⟨by omega, by omega⟩] at this
  exact this
theorem ov_rem0 {P : Program} {env : Env} {w : World} {x y : Operand} {t t' : TypeId} {k : IntKind} {a b : Int} (hx : evx env x = some (.int k a)) (hy : evx env y = some (.int k b)) (h0 : 0 ≤ a) (hb : 0 < b) : OV P env (.binOp .rem t x y t') w (.int k (a % b)) := by
  have := ov_remw (P := P) (w := w) (t := t) (t' := t') hx hy (by omega)
  rw [Int.tmod_eq_emod_of_nonneg h0] at this
  exact this

/-- A cell behind cells that are not looked into. -/
theorem app_at {l m : List Value} {o : Nat} {v : Value} (n : Nat) (h : l.length = n) (hn : Nat.ble n o = true) (hk : m[o - n]? = some v) : (l ++ m)[o]? = some v := by
  subst h
  rw [List.getElem?_append_right (Nat.le_of_ble_eq_true hn)]; exact hk
/-! Comparisons whose outcome is told. -/
section
variable {P : Program} {env : Env} {w : World} {x y : Operand} {t t' : TypeId} {k : IntKind} {a b : Int} {c : Bool} {s r : ByteArray}
theorem oc_lss (hx : evx env x = some (.int k a)) (hy : evx env y = some (.int k b)) (h : decide (a < b) = c) : OV P env (.binOp .lss t x y t') w (.bool c) := h ▸ ov_lss hx hy
theorem oc_leq (hx : evx env x = some (.int k a)) (hy : evx env y = some (.int k b)) (h : decide (a ≤ b) = c) : OV P env (.binOp .leq t x y t') w (.bool c) := h ▸ ov_leq hx hy
theorem oc_gtr (hx : evx env x = some (.int k a)) (hy : evx env y = some (.int k b)) (h : decide (b < a) = c) : OV P env (.binOp .gtr t x y t') w (.bool c) := h ▸ ov_gtr hx hy
theorem oc_geq (hx : evx env x = some (.int k a)) (hy : evx env y = some (.int k b)) (h : decide (b ≤ a) = c) : OV P env (.binOp .geq t x y t') w (.bool c) := h ▸ ov_geq hx hy
theorem oc_eql (hx : evx env x = some (.int k a)) (hy : evx env y = some (.int k b)) (h : decide (a = b) = c) : OV P env (.binOp .eql t x y t') w (.bool c) := h ▸ ov_eql hx hy
theorem oc_neq (hx : evx env x = some (.int k a)) (hy : evx env y = some (.int k b)) (h : decide (a = b) = c) : OV P env (.binOp .neq t x y t') w (.bool (!c)) := h ▸ ov_neq hx hy
theorem oc_seql (hx : evx env x = some (.string s)) (hy : evx env y = some (.string r)) (h : decide (s = r) = c) : OV P env (.binOp .eql t x y t') w (.bool c) := h ▸ ov_seql hx hy
theorem oc_sneq (hx : evx env x = some (.string s)) (hy : evx env y = some (.string r)) (h : decide (s = r) = c) : OV P env (.binOp .neq t x y t') w (.bool (!c)) := h ▸ ov_sneq hx hy
end
section
variable {P : Program} {env : Env} {w : World} {v : Value} {c x y : Operand} {p : Prop} {_hd : Decidable p} {a b : Bool}
theorem oc_pick_t (hc : evx env c = some (.bool (decide p))) (hx : evx env x = some v) (h : p) : OV P env (.pick c x y) w v := ov_pick_t (by rw [hc, decide_eq_true h]) hx
theorem oc_pick_f (hc : evx env c = some (.bool (decide p))) (hy : evx env y = some v) (h : ¬ p) : OV P env (.pick c x y) w v := ov_pick_f (by rw [hc, decide_eq_false h]) hy
theorem oc_pick_or (hc : evx env c = some (.bool a)) (hx : evx env x = some (.bool true)) (hy : evx env y = some (.bool b)) : OV P env (.pick c x y) w (.bool (a || b)) := by
  cases a
  · exact ov_pick_f hc hy
  · exact ov_pick_t hc hx
theorem oc_pick_and (hc : evx env c = some (.bool a)) (hx : evx env x = some (.bool b)) (hy : evx env y = some (.bool false)) : OV P env (.pick c x y) w (.bool (a && b)) := by
  cases a
  · exact ov_pick_f hc hy
  · exact ov_pick_t hc hx
end
/-- The slice v holds elements of sz cells each. -/
def RowAt (w : World) (v : Value) (sz : Nat) (xs : List (List Value)) : Prop := ∃ ea cap, v = .slice ea xs.length cap ∧ ∀ i c, xs[i]? = some c → ∃ b o, ea = some ⟨b, o, none⟩ ∧ ∀ j u, c[j]? = some u → w.cell? ⟨b, o + i * sz + j, none⟩ = some u
theorem RowAt.ext {w w' : World} {v : Value} {sz : Nat} {xs : List (List Value)} (h : RowAt w v sz xs) (hb : Below w.heap.size w w') : RowAt w' v sz xs := by
  obtain ⟨ea, cap, hv, h2⟩ := h
  refine ⟨ea, cap, hv, fun i c hc => ?_⟩
  obtain ⟨b, o, h3, h4⟩ := h2 i c hc
  exact ⟨b, o, h3, fun j u hu => cell_ext hb (h4 j u hu)⟩
/-- F holds of every frame and every world that are as env and O say. -/
def K (N : Nat) (env : Env) (r : World) (O : List Own) (F : Act → World → Prop) : Prop := ∀ w, Sat r O w → J N env w F

section
variable {P : Program} {N : Nat} {env : Env} {r w : World} {O : List Own} {Q : Exit → Act → World → Prop} {G : Act → World → Prop}
theorem j_of_k {F : Act → World → Prop} (hS : Sat r O w) (h : K N env r O F) : J N env w F := h w hS
theorem k_of {F : Act → World → Prop} (h : ∀ w, Sat r O w → J N env w F) : K N env r O F := h
theorem k_sub {F : Act → World → Prop} (l : Env) (O' : List Own) (hs : Sub l env) (hO : SubO O' O) (h : K N l r O' F) : K N env r O F := fun w hw => j_sub l hs (h w (hw.sub hO))
theorem k_seq {x y : Code} (h : K N env r O (Code.wp P x (Exit.then (Code.wp P y Q) Q))) : K N env r O (Code.wp P (.seq x y) Q) := fun w hw => j_seq (h w hw)
theorem k_skip (h : K N env r O (Q .normal)) : K N env r O (Code.wp P .skip Q) := fun w hw => j_skip (h w hw)
theorem k_ret (h : K N env r O (Q .ret)) : K N env r O (Code.wp P .ret Q) := fun w hw => j_ret (h w hw)
theorem k_exit {id : Nat} (h : K N env r O (Q (.exit id))) : K N env r O (Code.wp P (.exit id) Q) := fun w hw => j_exit (h w hw)
theorem k_block {id : Nat} {c : Code} (h : K N env r O (Code.wp P c (Exit.inBlock id Q))) : K N env r O (Code.wp P (.block id c) Q) := fun w hw => j_block (h w hw)
theorem k_region {id : Nat} {l : List Oper} (h : K N env r O (wpList P l.toArray Q l)) : K N env r O (Code.wp P (.region id l.toArray false) Q) := fun w hw => j_region (h w hw)
theorem k_nil {ops : Array Oper} (h : K N env r O (Q .normal)) : K N env r O (wpList P ops Q []) := fun w hw => j_nil (h w hw)
theorem k_then (h : K N env r O G) : K N env r O (Exit.then G Q .normal) := h
theorem k_then_exit {id : Nat} (h : K N env r O (Q (.exit id))) : K N env r O (Exit.then G Q (.exit id)) := h
theorem k_then_ret (h : K N env r O (Q .ret)) : K N env r O (Exit.then G Q .ret) := h
theorem k_in {id : Nat} (h : K N env r O (Q .normal)) : K N env r O (Exit.inBlock id Q .normal) := h
theorem k_in_ret {id : Nat} (h : K N env r O (Q .ret)) : K N env r O (Exit.inBlock id Q .ret) := h
theorem k_in_here {id i : Nat} (e : Nat.beq i id = true) (h : K N env r O (Q .normal)) : K N env r O (Exit.inBlock id Q (.exit i)) := fun w hw => j_in_here e (h w hw)
theorem k_in_on {id i : Nat} (e : Nat.beq i id = false) (h : K N env r O (Q (.exit i))) : K N env r O (Exit.inBlock id Q (.exit i)) := fun w hw => j_in_on e (h w hw)
theorem k_cond_t {c : Operand} {x y : Code} (hc : evx env c = some (.bool true)) (h : K N env r O (Code.wp P x Q)) : K N env r O (Code.wp P (.cond c x y) Q) := fun w hw => j_cond_t hc (h w hw)
theorem k_cond_f {c : Operand} {x y : Code} (hc : evx env c = some (.bool false)) (h : K N env r O (Code.wp P y Q)) : K N env r O (Code.wp P (.cond c x y) Q) := fun w hw => j_cond_f hc (h w hw)
theorem k_cond {c : Operand} {x y : Code} {b : Bool} (hc : evx env c = some (.bool b)) (ht : b = true → K N env r O (Code.wp P x Q)) (hf : b = false → K N env r O (Code.wp P y Q)) : K N env r O (Code.wp P (.cond c x y) Q) :=
  fun w hw => j_cond hc (fun e => ht e w hw) (fun e => hf e w hw)

theorem k_condd_t {c : Operand} {x y : Code} {p : Prop} {_hd : Decidable p} (hc : evx env c = some (.bool (decide p))) (hp : p) (h : K N env r O (Code.wp P x Q)) : K N env r O (Code.wp P (.cond c x y) Q) := k_cond_t (by rw [hc, decide_eq_true hp]) h
theorem k_condd_f {c : Operand} {x y : Code} {p : Prop} {_hd : Decidable p} (hc : evx env c = some (.bool (decide p))) (hp : ¬ p) (h : K N env r O (Code.wp P y Q)) : K N env r O (Code.wp P (.cond c x y) Q) := k_cond_f (by rw [hc, decide_eq_false hp]) h
theorem k_condd {c : Operand} {x y : Code} {p : Prop} {_hd : Decidable p} (hc : evx env c = some (.bool (decide p))) (ht : p → K N env r O (Code.wp P x Q)) (hf : ¬ p → K N env r O (Code.wp P y Q)) : K N env r O (Code.wp P (.cond c x y) Q) :=
  k_cond hc (fun e => ht (of_decide_eq_true e)) (fun e => hf (of_decide_eq_false e))
theorem k_condn {c : Operand} {x y : Code} {p : Prop} {_hd : Decidable p} (hc : evx env c = some (.bool (!decide p))) (ht : ¬ p → K N env r O (Code.wp P x Q)) (hf : p → K N env r O (Code.wp P y Q)) : K N env r O (Code.wp P (.cond c x y) Q) :=
  k_cond hc (fun e => ht (by simpa using e)) (fun e => hf (by simpa using e))

/-- A cut: what the first piece leaves, for a ghost s. -/
def KLeft {σ : Type} (N : Nat) (r : World) (envOf : σ → Env) (Oof : σ → List Own) (ok : σ → Prop) : Act → World → Prop := Left N envOf fun s w => Sat r (Oof s) w ∧ ok s
theorem k_left {σ : Type} {envOf : σ → Env} {Oof : σ → List Own} {ok : σ → Prop} (s : σ) (hs : Sub (envOf s) env) (hO : SubO (Oof s) O) (hok : ok s) : K N env r O (KLeft N r envOf Oof ok) := fun _ hw => j_left s hs ⟨hw.sub hO, hok⟩
theorem k_seq_cut {σ : Type} (envOf : σ → Env) (Oof : σ → List Own) (ok : σ → Prop) {x y : Code} (hx : K N env r O (Code.wp P x (Exit.then (KLeft N r envOf Oof ok) Q))) (hy : ∀ s, ok s → K N (envOf s) r (Oof s) (Code.wp P y Q)) : K N env r O (Code.wp P (.seq x y) Q) :=
  fun w hw => j_seq_cut envOf (fun s w => Sat r (Oof s) w ∧ ok s) (hx w hw) fun s w' h => hy s h.2 w' h.1
/-- What a round leaves. -/
def KRound {σ : Type} (N : Nat) (r : World) (envOf : σ → Env) (Oof : σ → List Own) (ok : σ → Prop) (μ : σ → Nat) (s : σ) : Act → World → Prop := Round N envOf (fun s w => Sat r (Oof s) w ∧ ok s) μ s
theorem k_round {σ : Type} {envOf : σ → Env} {Oof : σ → List Own} {ok : σ → Prop} {μ : σ → Nat} {s : σ} (s' : σ) (hs : Sub (envOf s') env) (hO : SubO (Oof s') O) (hok : ok s') (hm : μ s' < μ s) : K N env r O (KRound N r envOf Oof ok μ s) := fun _ hw => j_round s' hs ⟨hw.sub hO, hok⟩ hm
theorem k_loop {σ : Type} (envOf : σ → Env) (Oof : σ → List Own) (ok : σ → Prop) (μ : σ → Nat) (s₀ : σ) {c : Code} (hs : Sub (envOf s₀) env) (hO : SubO (Oof s₀) O) (h0 : ok s₀)
    (round : ∀ s, ok s → K N (envOf s) r (Oof s) (Code.wp P c (Exit.then (KRound N r envOf Oof ok μ s) Q))) : K N env r O (Code.wp P (.loop c) Q) :=
  fun _ hw => j_loop envOf (fun s w => Sat r (Oof s) w ∧ ok s) μ s₀ hs ⟨hw.sub hO, h0⟩ fun s w' h => round s h.2 w' h.1
/-- From here on the world is an elder one, only read. -/
theorem k_snap {F : Act → World → Prop} (h : ∀ r', Sat r O r' → K N env r' [] F) : K N env r O F := fun w hw => h w hw w (Sat.refl w)

section ops
variable {ops : Array Oper} {rest : List Oper} {d : Nat} {op : Op} {ty : TypeId} {pos : String} {after : Array Edge} {v : Value}
theorem k_op (hd : Nat.blt d N = true) (hv : ∀ w, Sat r O w → OV P env op w v) (h : K N ((d, v) :: env) r O (wpList P ops Q rest)) : K N env r O (wpList P ops Q (⟨some d, op, ty, pos, after, none⟩ :: rest)) := fun w hw => j_op hd (hv w hw) (h w hw)
theorem k_guard_yes {j : Nat} {want : Bool} {oj : Oper} {dj : Nat} {dst : Option Tmp} (hj : ops[j]? = some oj) (hdj : oj.dst = some dj) (hl : look env dj = some (.bool want)) (h : K N env r O (wpList P ops Q (⟨dst, op, ty, pos, after, none⟩ :: rest))) :
    K N env r O (wpList P ops Q (⟨dst, op, ty, pos, after, some (j, want)⟩ :: rest)) := fun w hw => j_guard_yes hj hdj hl (h w hw)
theorem k_guard_no {j : Nat} {want b : Bool} {oj : Oper} {dj : Nat} (hj : ops[j]? = some oj) (hdj : oj.dst = some dj) (hl : look env dj = some (.bool b)) (hb : (b == want) = false) (hd : Nat.blt d N = true) (h : K N ((d, undef) :: env) r O (wpList P ops Q rest)) :
    K N env r O (wpList P ops Q (⟨some d, op, ty, pos, after, some (j, want)⟩ :: rest)) := fun w hw => j_guard_no hj hdj hl hb hd (h w hw)
theorem k_guard_no0 {j : Nat} {want b : Bool} {oj : Oper} {dj : Nat} (hj : ops[j]? = some oj) (hdj : oj.dst = some dj) (hl : look env dj = some (.bool b)) (hb : (b == want) = false) (h : K N env r O (wpList P ops Q rest)) :
    K N env r O (wpList P ops Q (⟨none, op, ty, pos, after, some (j, want)⟩ :: rest)) := fun w hw => j_guard_no0 hj hdj hl hb (h w hw)
theorem k_guard_undef {j : Nat} {want : Bool} {oj : Oper} {dj : Nat} (hj : ops[j]? = some oj) (hdj : oj.dst = some dj) (hl : look env dj = some undef) (hd : Nat.blt d N = true) (h : K N ((d, undef) :: env) r O (wpList P ops Q rest)) :
    K N env r O (wpList P ops Q (⟨some d, op, ty, pos, after, some (j, want)⟩ :: rest)) := fun w hw => j_guard_undef hj hdj hl hd (h w hw)
theorem k_guard {j : Nat} {want b : Bool} {oj : Oper} {dj : Nat} {dst : Option Tmp} (hj : ops[j]? = some oj) (hdj : oj.dst = some dj) (hl : look env dj = some (.bool b)) (hn : Nat.blt dj N = true)
    (hy : b = true → K N ((dj, .bool true) :: env) r O (wpList P ops Q (⟨dst, op, ty, pos, after, some (j, want)⟩ :: rest))) (hf : b = false → K N ((dj, .bool false) :: env) r O (wpList P ops Q (⟨dst, op, ty, pos, after, some (j, want)⟩ :: rest))) :
    K N env r O (wpList P ops Q (⟨dst, op, ty, pos, after, some (j, want)⟩ :: rest)) := fun w hw => j_guard hj hdj hl hn (fun e => hy e w hw) (fun e => hf e w hw)

theorem k_guardd {j : Nat} {want : Bool} {p : Prop} {_hd : Decidable p} {oj : Oper} {dj : Nat} {dst : Option Tmp} (hj : ops[j]? = some oj) (hdj : oj.dst = some dj) (hl : look env dj = some (.bool (decide p))) (hn : Nat.blt dj N = true)
    (hy : p → K N ((dj, .bool true) :: env) r O (wpList P ops Q (⟨dst, op, ty, pos, after, some (j, want)⟩ :: rest))) (hf : ¬ p → K N ((dj, .bool false) :: env) r O (wpList P ops Q (⟨dst, op, ty, pos, after, some (j, want)⟩ :: rest))) :
    K N env r O (wpList P ops Q (⟨dst, op, ty, pos, after, some (j, want)⟩ :: rest)) := k_guard hj hdj hl hn (fun e => hy (of_decide_eq_true e)) (fun e => hf (of_decide_eq_false e))

/-! Loads. -/
theorem ov_own {f : Bool} {b o : Nat} {cs : List Value} {t t0 : TypeId} {x : Operand} (i : Nat) (hw : Sat r O w) (_hg : TAgg P t false) (hx : evx env x = some (.pointer (some ⟨b, o, none⟩))) (hO : nthO O i = some (bk f b cs t0)) (hv : cs[o]? = some v) : OV P env (.load t x) w v :=
  ov_load1 hx ((hw.blk i hO).cell hv)
theorem cells_from {b o n : Nat} {cs : List Value} {t : TypeId} (h : Blk w b cs t) : ∀ j u, ((cs.drop o).take n)[j]? = some u → w.cell? ((⟨b, o, none⟩ : Addr).add j) = some u := by
  intro j u hj
  have e : (⟨b, o, none⟩ : Addr).add j = ⟨b, o + j, none⟩ := by unfold Addr.add; split <;> simp [*]
  rw [e]
  refine h.cell ?_
  rw [List.getElem?_take] at hj
  split at hj
  · simpa using hj
  · cases hj
/-- A struct out of a block of its own. -/
theorem ov_ownAgg {f : Bool} {b : Nat} {cs : List Value} {n : Nat} {t t0 : TypeId} {x : Operand} [TSize P t n] (i : Nat) (hw : Sat r O w) (_hg : TAgg P t true) (hx : evx env x = some (.pointer (some ⟨b, 0, none⟩))) (hO : nthO O i = some (bk f b cs t0)) (hn : cs.length = n) : OV P env (.load t x) w (.agg cs.toArray) :=
  ov_loadAgg hx hn (hw.blk i hO).cells
/-- A struct or an array within a block. -/
theorem ov_ownPart {f : Bool} {b o : Nat} {cs : List Value} {n : Nat} {t t0 : TypeId} {x : Operand} [TSize P t n] (i : Nat) (hw : Sat r O w) (_hg : TAgg P t true) (hx : evx env x = some (.pointer (some ⟨b, o, none⟩))) (hO : nthO O i = some (bk f b cs t0)) (hn : o + n ≤ cs.length) : OV P env (.load t x) w (.agg ((cs.drop o).take n).toArray) :=
  ov_loadAgg hx (by simp; omega) (cells_from (hw.blk i hO))
/-- Out of the elder world. -/
theorem ov_eld {ad : Addr} {t : TypeId} {x : Operand} (hw : Sat r O w) (_hg : TAgg P t false) (hn : noOld O = true) (hx : evx env x = some (.pointer (some ad))) (hc : r.cell? ad = some v) : OV P env (.load t x) w v :=
  ov_load1 hx (cell_ext (hw.below hn) hc)
theorem ov_eldB {b o : Nat} {cs : List Value} {t t0 : TypeId} {x : Operand} (hw : Sat r O w) (_hg : TAgg P t false) (hn : noOld O = true) (hx : evx env x = some (.pointer (some ⟨b, o, none⟩))) (hb : Blk r b cs t0) (hv : cs[o]? = some v) : OV P env (.load t x) w v :=
  ov_load1 hx ((hb.ext (hw.below hn)).cell hv)
theorem ov_eldAgg {b : Nat} {cs : List Value} {n : Nat} {t t0 : TypeId} {x : Operand} [TSize P t n] (hw : Sat r O w) (_hg : TAgg P t true) (hn : noOld O = true) (hx : evx env x = some (.pointer (some ⟨b, 0, none⟩))) (hb : Blk r b cs t0) (hl : cs.length = n) : OV P env (.load t x) w (.agg cs.toArray) :=
  ov_loadAgg hx hl (hb.ext (hw.below hn)).cells
theorem k_load (i : Nat) {f : Bool} {b o : Nat} {cs : List Value} {t t0 : TypeId} {x : Operand} [TAgg P t false] (hd : Nat.blt d N = true) (hx : evx env x = some (.pointer (some ⟨b, o, none⟩))) (hO : nthO O i = some (bk f b cs t0)) (hv : cs[o]? = some v) (h : K N ((d, v) :: env) r O (wpList P ops Q rest)) :
    K N env r O (wpList P ops Q (⟨some d, .load t x, ty, pos, after, none⟩ :: rest)) := k_op hd (fun _ hw => ov_own i hw inferInstance hx hO hv) h
theorem k_loadAgg (i : Nat) {f : Bool} {b n : Nat} {cs : List Value} {t t0 : TypeId} {x : Operand} [TAgg P t true] [TSize P t n] (hd : Nat.blt d N = true) (hx : evx env x = some (.pointer (some ⟨b, 0, none⟩))) (hO : nthO O i = some (bk f b cs t0)) (hn : cs.length = n) (h : K N ((d, .agg cs.toArray) :: env) r O (wpList P ops Q rest)) :
    K N env r O (wpList P ops Q (⟨some d, .load t x, ty, pos, after, none⟩ :: rest)) := k_op hd (fun _ hw => ov_ownAgg i hw inferInstance hx hO hn) h
theorem k_eld {ad : Addr} {t : TypeId} {x : Operand} [TAgg P t false] (hd : Nat.blt d N = true) (hn : noOld O = true) (hx : evx env x = some (.pointer (some ad))) (hc : r.cell? ad = some v) (h : K N ((d, v) :: env) r O (wpList P ops Q rest)) :
    K N env r O (wpList P ops Q (⟨some d, .load t x, ty, pos, after, none⟩ :: rest)) := k_op hd (fun _ hw => ov_eld hw inferInstance hn hx hc) h
theorem k_eldB {b o : Nat} {cs : List Value} {t t0 : TypeId} {x : Operand} [TAgg P t false] (hd : Nat.blt d N = true) (hn : noOld O = true) (hx : evx env x = some (.pointer (some ⟨b, o, none⟩))) (hb : Blk r b cs t0) (hv : cs[o]? = some v) (h : K N ((d, v) :: env) r O (wpList P ops Q rest)) :
    K N env r O (wpList P ops Q (⟨some d, .load t x, ty, pos, after, none⟩ :: rest)) := k_op hd (fun _ hw => ov_eldB hw inferInstance hn hx hb hv) h

/-! New memory. -/
theorem k_box {t : TypeId} {x : Operand} {cs : List Value} (hd : Nat.blt d N = true) (hx : evx env x = some v) (hcs : v.cells.toList = cs) (h : ∀ b, K N ((d, .pointer (some ⟨b, 0, none⟩)) :: env) r (bk false b cs t :: O) (wpList P ops Q rest)) :
    K N env r O (wpList P ops Q (⟨some d, .box t x, ty, pos, after, none⟩ :: rest)) := by
  intro w hw
  refine j_new hd (ev_box hx) ?_
  intro w' hb hx' hz
  rw [hcs] at hb
  exact h _ w' (hw.add hx' hb (fun k hk => by cases (hk : k = _); exact ⟨Nat.le_refl _, by omega⟩) rfl)
theorem k_alloc {t : TypeId} {z : Value} [hz : TZero P t z] {cs : List Value} (hd : Nat.blt d N = true) (hcs : z.cells.toList = cs) (h : ∀ b, K N ((d, .pointer (some ⟨b, 0, none⟩)) :: env) r (bk false b cs t :: O) (wpList P ops Q rest)) :
    K N env r O (wpList P ops Q (⟨some d, .alloc t, ty, pos, after, none⟩ :: rest)) := by
  intro w hw
  refine j_new hd (ev_alloc (hz := hz)) ?_
  intro w' hb hx' hz
  rw [hcs] at hb
  exact h _ w' (hw.add hx' hb (fun k hk => by cases (hk : k = _); exact ⟨Nat.le_refl _, by omega⟩) rfl)
theorem k_lit {parts : Array (Nat × Operand)} {vs : List Value} {n : Nat} {t e : TypeId} {z : Value} {bytes : Nat} [TElem P t e] [TInfo P e z 1 bytes] (hd : Nat.blt d N = true) (hx : evs env (parts.toList.map (·.2)) = some vs) (hp : parts.toList.map (·.1) = List.range n) (hn : vs.length = n) (h1 : vs.all (·.oneCell') = true) (hsm : Nat.ble n 16777216 = true) (h0 : Nat.blt 0 n = true)
    (h : ∀ b, K N ((d, .slice (some ⟨b, 0, none⟩) n n) :: env) r (bk false b vs e :: O) (wpList P ops Q rest)) :
    K N env r O (wpList P ops Q (⟨some d, .buildSlice t n parts, ty, pos, after, none⟩ :: rest)) := by
  intro w hw
  refine j_lit hd hx hp hn h1 hsm h0 ?_
  intro w' hb hx' hz
  exact h _ w' (hw.add hx' hb (fun k hk => by cases (hk : k = _); exact ⟨Nat.le_refl _, by omega⟩) rfl)
theorem k_one {x : Operand} {t e : TypeId} {z : Value} {size bytes : Nat} {cs : List Value} [TElem P t e] [TInfo P e z size bytes] (hd : Nat.blt d N = true) (hx : evx env x = some v) (hcs : v.cells.toList = cs) (hs : v.cells.size = size) (hzs : z.cells.size = size) (h0 : Nat.blt 0 size = true) (h1 : Nat.ble size 16777216 = true)
    (h : ∀ b, K N ((d, .slice (some ⟨b, 0, none⟩) 1 1) :: env) r (bk false b cs e :: O) (wpList P ops Q rest)) :
    K N env r O (wpList P ops Q (⟨some d, .buildSlice t 1 #[(0, x)], ty, pos, after, none⟩ :: rest)) := by
  intro w hw
  refine j_one hd hx hs hzs h0 h1 ?_
  intro w' hb hx' hz
  rw [hcs] at hb
  exact h _ w' (hw.add hx' hb (fun k hk => by cases (hk : k = _); exact ⟨Nat.le_refl _, by omega⟩) rfl)
theorem k_lit0 {t e : TypeId} {z : Value} {size bytes : Nat} [TElem P t e] [TInfo P e z size bytes] (hd : Nat.blt d N = true)
    (h : ∀ b, K N ((d, .slice (some ⟨b, 0, none⟩) 0 0) :: env) r (row false (.slice (some ⟨b, 0, none⟩) 0 0) 0 [] e size :: O) (wpList P ops Q rest)) :
    K N env r O (wpList P ops Q (⟨some d, .buildSlice t 0 #[], ty, pos, after, none⟩ :: rest)) := by
  intro w hw
  refine j_lit0 hd ?_
  intro w' ho hx' hz
  refine h _ w' (hw.add hx' (o := row false _ 0 [] e size) ?_ (fun k hk => ?_) rfl)
  · obtain ⟨h1, h2⟩ := ho
    refine ⟨h1, ?_⟩
    rcases h2 with h2 | ⟨g, cap, cur, h3, _, h4⟩
    · exact .inl h2
    · exact .inr ⟨g, cap, cur, h3, Nat.zero_le _, h4⟩
  · have : some w.heap.size = some k := hk
    injection this with this
    omega

/-! Stores. -/
theorem k_storeG {A C : List Own} {f : Bool} {x y : Operand} {t t0 : TypeId} {b off n : Nat} {cs : List Value} [TSize P t n] (hx : evx env x = some (.pointer (some ⟨b, off, none⟩))) (hy : evx env y = some v) (hn : v.cells.size = n) (hl : off + n ≤ cs.length) (h1 : v.cells.toList.all (·.oneCell') = true)
    (h : K N env r (A ++ bk f b (spl cs off v.cells.toList) t0 :: C) (wpList P ops Q rest)) : K N env r (A ++ bk f b cs t0 :: C) (wpList P ops Q (⟨none, .store t x y, ty, pos, after, none⟩ :: rest)) := by
  intro w hw
  have hb : Blk w b cs t0 := (hw.all (bk f b cs t0) (by simp)).1
  refine j_store hx hy hb hn hl h1 ?_
  intro w' hb' hg hz
  refine h w' (hw.upd hg.os hg.tape hg.output hg.size (fun k hk hne => hg.block k hk (fun e => hne (by injection e with e))) hb' (fun k hk => ⟨.inl hk, ?_⟩) rfl (fun _ k hk => hk))
  cases (hk : k = b)
  exact hb'.lt
theorem k_store1G {A C : List Own} {f : Bool} {x y : Operand} {t t0 : TypeId} {b off : Nat} {cs : List Value} [TSize P t 1] (hx : evx env x = some (.pointer (some ⟨b, off, none⟩))) (hy : evx env y = some v) (h1 : v.oneCell' = true) (hl : off < cs.length)
    (h : K N env r (A ++ bk f b (cs.set off v) t0 :: C) (wpList P ops Q rest)) : K N env r (A ++ bk f b cs t0 :: C) (wpList P ops Q (⟨none, .store t x y, ty, pos, after, none⟩ :: rest)) := by
  have hc := oneCell_cells h1
  refine k_storeG (n := 1) hx hy (by rw [hc]; rfl) (by omega) (by rw [hc]; simp [h1]) ?_
  rw [hc]
  have := spl_one cs off v hl
  rw [this]
  exact h
theorem k_st0 { X : Own} {C : List Own} {f : Bool} {x y : Operand} {t t0 : TypeId} {b off : Nat} {cs : List Value} [TSize P t 1] (hx : evx env x = some (.pointer (some ⟨b, off, none⟩))) (hX : X = bk f b cs t0) (hy : evx env y = some v) (h1 : v.oneCell' = true) (hl : Nat.blt off cs.length = true)
    (h : K N env r ( bk f b (cs.set off v) t0 :: C) (wpList P ops Q rest)) : K N env r ( X :: C) (wpList P ops Q (⟨none, .store t x y, ty, pos, after, none⟩ :: rest)) := by
  subst hX
  exact k_store1G (A :=  []) hx hy h1 (Nat.blt_eq ▸ hl) h
theorem k_stA0 { X : Own} {C : List Own} {f : Bool} {x y : Operand} {t t0 : TypeId} {b off n : Nat} {cs : List Value} [TSize P t n] (hx : evx env x = some (.pointer (some ⟨b, off, none⟩))) (hX : X = bk f b cs t0) (hy : evx env y = some v) (hn : v.cells.size = n) (hl : Nat.ble (off + n) cs.length = true) (h1 : v.cells.toList.all (·.oneCell') = true)
    (h : K N env r ( bk f b (spl cs off v.cells.toList) t0 :: C) (wpList P ops Q rest)) : K N env r ( X :: C) (wpList P ops Q (⟨none, .store t x y, ty, pos, after, none⟩ :: rest)) := by
  subst hX
  exact k_storeG (A :=  []) hx hy hn (Nat.le_of_ble_eq_true hl) h1 h
theorem k_st1 {o0 X : Own} {C : List Own} {f : Bool} {x y : Operand} {t t0 : TypeId} {b off : Nat} {cs : List Value} [TSize P t 1] (hx : evx env x = some (.pointer (some ⟨b, off, none⟩))) (hX : X = bk f b cs t0) (hy : evx env y = some v) (h1 : v.oneCell' = true) (hl : Nat.blt off cs.length = true)
    (h : K N env r (o0 :: bk f b (cs.set off v) t0 :: C) (wpList P ops Q rest)) : K N env r (o0 :: X :: C) (wpList P ops Q (⟨none, .store t x y, ty, pos, after, none⟩ :: rest)) := by
  subst hX
  exact k_store1G (A := o0 :: []) hx hy h1 (Nat.blt_eq ▸ hl) h
theorem k_stA1 {o0 X : Own} {C : List Own} {f : Bool} {x y : Operand} {t t0 : TypeId} {b off n : Nat} {cs : List Value} [TSize P t n] (hx : evx env x = some (.pointer (some ⟨b, off, none⟩))) (hX : X = bk f b cs t0) (hy : evx env y = some v) (hn : v.cells.size = n) (hl : Nat.ble (off + n) cs.length = true) (h1 : v.cells.toList.all (·.oneCell') = true)
    (h : K N env r (o0 :: bk f b (spl cs off v.cells.toList) t0 :: C) (wpList P ops Q rest)) : K N env r (o0 :: X :: C) (wpList P ops Q (⟨none, .store t x y, ty, pos, after, none⟩ :: rest)) := by
  subst hX
  exact k_storeG (A := o0 :: []) hx hy hn (Nat.le_of_ble_eq_true hl) h1 h
theorem k_st2 {o0 o1 X : Own} {C : List Own} {f : Bool} {x y : Operand} {t t0 : TypeId} {b off : Nat} {cs : List Value} [TSize P t 1] (hx : evx env x = some (.pointer (some ⟨b, off, none⟩))) (hX : X = bk f b cs t0) (hy : evx env y = some v) (h1 : v.oneCell' = true) (hl : Nat.blt off cs.length = true)
    (h : K N env r (o0 :: o1 :: bk f b (cs.set off v) t0 :: C) (wpList P ops Q rest)) : K N env r (o0 :: o1 :: X :: C) (wpList P ops Q (⟨none, .store t x y, ty, pos, after, none⟩ :: rest)) := by
  subst hX
  exact k_store1G (A := o0 :: o1 :: []) hx hy h1 (Nat.blt_eq ▸ hl) h
theorem k_stA2 {o0 o1 X : Own} {C : List Own} {f : Bool} {x y : Operand} {t t0 : TypeId} {b off n : Nat} {cs : List Value} [TSize P t n] (hx : evx env x = some (.pointer (some ⟨b, off, none⟩))) (hX : X = bk f b cs t0) (hy : evx env y = some v) (hn : v.cells.size = n) (hl : Nat.ble (off + n) cs.length = true) (h1 : v.cells.toList.all (·.oneCell') = true)
    (h : K N env r (o0 :: o1 :: bk f b (spl cs off v.cells.toList) t0 :: C) (wpList P ops Q rest)) : K N env r (o0 :: o1 :: X :: C) (wpList P ops Q (⟨none, .store t x y, ty, pos, after, none⟩ :: rest)) := by
  subst hX
  exact k_storeG (A := o0 :: o1 :: []) hx hy hn (Nat.le_of_ble_eq_true hl) h1 h
theorem k_st3 {o0 o1 o2 X : Own} {C : List Own} {f : Bool} {x y : Operand} {t t0 : TypeId} {b off : Nat} {cs : List Value} [TSize P t 1] (hx : evx env x = some (.pointer (some ⟨b, off, none⟩))) (hX : X = bk f b cs t0) (hy : evx env y = some v) (h1 : v.oneCell' = true) (hl : Nat.blt off cs.length = true)
    (h : K N env r (o0 :: o1 :: o2 :: bk f b (cs.set off v) t0 :: C) (wpList P ops Q rest)) : K N env r (o0 :: o1 :: o2 :: X :: C) (wpList P ops Q (⟨none, .store t x y, ty, pos, after, none⟩ :: rest)) := by
  subst hX
  exact k_store1G (A := o0 :: o1 :: o2 :: []) hx hy h1 (Nat.blt_eq ▸ hl) h
theorem k_stA3 {o0 o1 o2 X : Own} {C : List Own} {f : Bool} {x y : Operand} {t t0 : TypeId} {b off n : Nat} {cs : List Value} [TSize P t n] (hx : evx env x = some (.pointer (some ⟨b, off, none⟩))) (hX : X = bk f b cs t0) (hy : evx env y = some v) (hn : v.cells.size = n) (hl : Nat.ble (off + n) cs.length = true) (h1 : v.cells.toList.all (·.oneCell') = true)
    (h : K N env r (o0 :: o1 :: o2 :: bk f b (spl cs off v.cells.toList) t0 :: C) (wpList P ops Q rest)) : K N env r (o0 :: o1 :: o2 :: X :: C) (wpList P ops Q (⟨none, .store t x y, ty, pos, after, none⟩ :: rest)) := by
  subst hX
  exact k_storeG (A := o0 :: o1 :: o2 :: []) hx hy hn (Nat.le_of_ble_eq_true hl) h1 h
theorem k_st4 {o0 o1 o2 o3 X : Own} {C : List Own} {f : Bool} {x y : Operand} {t t0 : TypeId} {b off : Nat} {cs : List Value} [TSize P t 1] (hx : evx env x = some (.pointer (some ⟨b, off, none⟩))) (hX : X = bk f b cs t0) (hy : evx env y = some v) (h1 : v.oneCell' = true) (hl : Nat.blt off cs.length = true)
    (h : K N env r (o0 :: o1 :: o2 :: o3 :: bk f b (cs.set off v) t0 :: C) (wpList P ops Q rest)) : K N env r (o0 :: o1 :: o2 :: o3 :: X :: C) (wpList P ops Q (⟨none, .store t x y, ty, pos, after, none⟩ :: rest)) := by
  subst hX
  exact k_store1G (A := o0 :: o1 :: o2 :: o3 :: []) hx hy h1 (Nat.blt_eq ▸ hl) h
theorem k_stA4 {o0 o1 o2 o3 X : Own} {C : List Own} {f : Bool} {x y : Operand} {t t0 : TypeId} {b off n : Nat} {cs : List Value} [TSize P t n] (hx : evx env x = some (.pointer (some ⟨b, off, none⟩))) (hX : X = bk f b cs t0) (hy : evx env y = some v) (hn : v.cells.size = n) (hl : Nat.ble (off + n) cs.length = true) (h1 : v.cells.toList.all (·.oneCell') = true)
    (h : K N env r (o0 :: o1 :: o2 :: o3 :: bk f b (spl cs off v.cells.toList) t0 :: C) (wpList P ops Q rest)) : K N env r (o0 :: o1 :: o2 :: o3 :: X :: C) (wpList P ops Q (⟨none, .store t x y, ty, pos, after, none⟩ :: rest)) := by
  subst hX
  exact k_storeG (A := o0 :: o1 :: o2 :: o3 :: []) hx hy hn (Nat.le_of_ble_eq_true hl) h1 h
theorem k_st5 {o0 o1 o2 o3 o4 X : Own} {C : List Own} {f : Bool} {x y : Operand} {t t0 : TypeId} {b off : Nat} {cs : List Value} [TSize P t 1] (hx : evx env x = some (.pointer (some ⟨b, off, none⟩))) (hX : X = bk f b cs t0) (hy : evx env y = some v) (h1 : v.oneCell' = true) (hl : Nat.blt off cs.length = true)
    (h : K N env r (o0 :: o1 :: o2 :: o3 :: o4 :: bk f b (cs.set off v) t0 :: C) (wpList P ops Q rest)) : K N env r (o0 :: o1 :: o2 :: o3 :: o4 :: X :: C) (wpList P ops Q (⟨none, .store t x y, ty, pos, after, none⟩ :: rest)) := by
  subst hX
  exact k_store1G (A := o0 :: o1 :: o2 :: o3 :: o4 :: []) hx hy h1 (Nat.blt_eq ▸ hl) h
theorem k_stA5 {o0 o1 o2 o3 o4 X : Own} {C : List Own} {f : Bool} {x y : Operand} {t t0 : TypeId} {b off n : Nat} {cs : List Value} [TSize P t n] (hx : evx env x = some (.pointer (some ⟨b, off, none⟩))) (hX : X = bk f b cs t0) (hy : evx env y = some v) (hn : v.cells.size = n) (hl : Nat.ble (off + n) cs.length = true) (h1 : v.cells.toList.all (·.oneCell') = true)
    (h : K N env r (o0 :: o1 :: o2 :: o3 :: o4 :: bk f b (spl cs off v.cells.toList) t0 :: C) (wpList P ops Q rest)) : K N env r (o0 :: o1 :: o2 :: o3 :: o4 :: X :: C) (wpList P ops Q (⟨none, .store t x y, ty, pos, after, none⟩ :: rest)) := by
  subst hX
  exact k_storeG (A := o0 :: o1 :: o2 :: o3 :: o4 :: []) hx hy hn (Nat.le_of_ble_eq_true hl) h1 h
theorem k_st6 {o0 o1 o2 o3 o4 o5 X : Own} {C : List Own} {f : Bool} {x y : Operand} {t t0 : TypeId} {b off : Nat} {cs : List Value} [TSize P t 1] (hx : evx env x = some (.pointer (some ⟨b, off, none⟩))) (hX : X = bk f b cs t0) (hy : evx env y = some v) (h1 : v.oneCell' = true) (hl : Nat.blt off cs.length = true)
    (h : K N env r (o0 :: o1 :: o2 :: o3 :: o4 :: o5 :: bk f b (cs.set off v) t0 :: C) (wpList P ops Q rest)) : K N env r (o0 :: o1 :: o2 :: o3 :: o4 :: o5 :: X :: C) (wpList P ops Q (⟨none, .store t x y, ty, pos, after, none⟩ :: rest)) := by
  subst hX
  exact k_store1G (A := o0 :: o1 :: o2 :: o3 :: o4 :: o5 :: []) hx hy h1 (Nat.blt_eq ▸ hl) h
theorem k_stA6 {o0 o1 o2 o3 o4 o5 X : Own} {C : List Own} {f : Bool} {x y : Operand} {t t0 : TypeId} {b off n : Nat} {cs : List Value} [TSize P t n] (hx : evx env x = some (.pointer (some ⟨b, off, none⟩))) (hX : X = bk f b cs t0) (hy : evx env y = some v) (hn : v.cells.size = n) (hl : Nat.ble (off + n) cs.length = true) (h1 : v.cells.toList.all (·.oneCell') = true)
    (h : K N env r (o0 :: o1 :: o2 :: o3 :: o4 :: o5 :: bk f b (spl cs off v.cells.toList) t0 :: C) (wpList P ops Q rest)) : K N env r (o0 :: o1 :: o2 :: o3 :: o4 :: o5 :: X :: C) (wpList P ops Q (⟨none, .store t x y, ty, pos, after, none⟩ :: rest)) := by
  subst hX
  exact k_storeG (A := o0 :: o1 :: o2 :: o3 :: o4 :: o5 :: []) hx hy hn (Nat.le_of_ble_eq_true hl) h1 h
theorem k_st7 {o0 o1 o2 o3 o4 o5 o6 X : Own} {C : List Own} {f : Bool} {x y : Operand} {t t0 : TypeId} {b off : Nat} {cs : List Value} [TSize P t 1] (hx : evx env x = some (.pointer (some ⟨b, off, none⟩))) (hX : X = bk f b cs t0) (hy : evx env y = some v) (h1 : v.oneCell' = true) (hl : Nat.blt off cs.length = true)
    (h : K N env r (o0 :: o1 :: o2 :: o3 :: o4 :: o5 :: o6 :: bk f b (cs.set off v) t0 :: C) (wpList P ops Q rest)) : K N env r (o0 :: o1 :: o2 :: o3 :: o4 :: o5 :: o6 :: X :: C) (wpList P ops Q (⟨none, .store t x y, ty, pos, after, none⟩ :: rest)) := by
  subst hX
  exact k_store1G (A := o0 :: o1 :: o2 :: o3 :: o4 :: o5 :: o6 :: []) hx hy h1 (Nat.blt_eq ▸ hl) h
theorem k_stA7 {o0 o1 o2 o3 o4 o5 o6 X : Own} {C : List Own} {f : Bool} {x y : Operand} {t t0 : TypeId} {b off n : Nat} {cs : List Value} [TSize P t n] (hx : evx env x = some (.pointer (some ⟨b, off, none⟩))) (hX : X = bk f b cs t0) (hy : evx env y = some v) (hn : v.cells.size = n) (hl : Nat.ble (off + n) cs.length = true) (h1 : v.cells.toList.all (·.oneCell') = true)
    (h : K N env r (o0 :: o1 :: o2 :: o3 :: o4 :: o5 :: o6 :: bk f b (spl cs off v.cells.toList) t0 :: C) (wpList P ops Q rest)) : K N env r (o0 :: o1 :: o2 :: o3 :: o4 :: o5 :: o6 :: X :: C) (wpList P ops Q (⟨none, .store t x y, ty, pos, after, none⟩ :: rest)) := by
  subst hX
  exact k_storeG (A := o0 :: o1 :: o2 :: o3 :: o4 :: o5 :: o6 :: []) hx hy hn (Nat.le_of_ble_eq_true hl) h1 h
theorem k_st8 {o0 o1 o2 o3 o4 o5 o6 o7 X : Own} {C : List Own} {f : Bool} {x y : Operand} {t t0 : TypeId} {b off : Nat} {cs : List Value} [TSize P t 1] (hx : evx env x = some (.pointer (some ⟨b, off, none⟩))) (hX : X = bk f b cs t0) (hy : evx env y = some v) (h1 : v.oneCell' = true) (hl : Nat.blt off cs.length = true)
    (h : K N env r (o0 :: o1 :: o2 :: o3 :: o4 :: o5 :: o6 :: o7 :: bk f b (cs.set off v) t0 :: C) (wpList P ops Q rest)) : K N env r (o0 :: o1 :: o2 :: o3 :: o4 :: o5 :: o6 :: o7 :: X :: C) (wpList P ops Q (⟨none, .store t x y, ty, pos, after, none⟩ :: rest)) := by
  subst hX
  exact k_store1G (A := o0 :: o1 :: o2 :: o3 :: o4 :: o5 :: o6 :: o7 :: []) hx hy h1 (Nat.blt_eq ▸ hl) h
theorem k_stA8 {o0 o1 o2 o3 o4 o5 o6 o7 X : Own} {C : List Own} {f : Bool} {x y : Operand} {t t0 : TypeId} {b off n : Nat} {cs : List Value} [TSize P t n] (hx : evx env x = some (.pointer (some ⟨b, off, none⟩))) (hX : X = bk f b cs t0) (hy : evx env y = some v) (hn : v.cells.size = n) (hl : Nat.ble (off + n) cs.length = true) (h1 : v.cells.toList.all (·.oneCell') = true)
    (h : K N env r (o0 :: o1 :: o2 :: o3 :: o4 :: o5 :: o6 :: o7 :: bk f b (spl cs off v.cells.toList) t0 :: C) (wpList P ops Q rest)) : K N env r (o0 :: o1 :: o2 :: o3 :: o4 :: o5 :: o6 :: o7 :: X :: C) (wpList P ops Q (⟨none, .store t x y, ty, pos, after, none⟩ :: rest)) := by
  subst hX
  exact k_storeG (A := o0 :: o1 :: o2 :: o3 :: o4 :: o5 :: o6 :: o7 :: []) hx hy hn (Nat.le_of_ble_eq_true hl) h1 h
theorem k_st9 {o0 o1 o2 o3 o4 o5 o6 o7 o8 X : Own} {C : List Own} {f : Bool} {x y : Operand} {t t0 : TypeId} {b off : Nat} {cs : List Value} [TSize P t 1] (hx : evx env x = some (.pointer (some ⟨b, off, none⟩))) (hX : X = bk f b cs t0) (hy : evx env y = some v) (h1 : v.oneCell' = true) (hl : Nat.blt off cs.length = true)
    (h : K N env r (o0 :: o1 :: o2 :: o3 :: o4 :: o5 :: o6 :: o7 :: o8 :: bk f b (cs.set off v) t0 :: C) (wpList P ops Q rest)) : K N env r (o0 :: o1 :: o2 :: o3 :: o4 :: o5 :: o6 :: o7 :: o8 :: X :: C) (wpList P ops Q (⟨none, .store t x y, ty, pos, after, none⟩ :: rest)) := by
  subst hX
  exact k_store1G (A := o0 :: o1 :: o2 :: o3 :: o4 :: o5 :: o6 :: o7 :: o8 :: []) hx hy h1 (Nat.blt_eq ▸ hl) h
theorem k_stA9 {o0 o1 o2 o3 o4 o5 o6 o7 o8 X : Own} {C : List Own} {f : Bool} {x y : Operand} {t t0 : TypeId} {b off n : Nat} {cs : List Value} [TSize P t n] (hx : evx env x = some (.pointer (some ⟨b, off, none⟩))) (hX : X = bk f b cs t0) (hy : evx env y = some v) (hn : v.cells.size = n) (hl : Nat.ble (off + n) cs.length = true) (h1 : v.cells.toList.all (·.oneCell') = true)
    (h : K N env r (o0 :: o1 :: o2 :: o3 :: o4 :: o5 :: o6 :: o7 :: o8 :: bk f b (spl cs off v.cells.toList) t0 :: C) (wpList P ops Q rest)) : K N env r (o0 :: o1 :: o2 :: o3 :: o4 :: o5 :: o6 :: o7 :: o8 :: X :: C) (wpList P ops Q (⟨none, .store t x y, ty, pos, after, none⟩ :: rest)) := by
  subst hX
  exact k_storeG (A := o0 :: o1 :: o2 :: o3 :: o4 :: o5 :: o6 :: o7 :: o8 :: []) hx hy hn (Nat.le_of_ble_eq_true hl) h1 h

/-- A store; what it leaves is told. -/
theorem k_stE0 { X : Own} {C : List Own} {f : Bool} {x y : Operand} {t t0 : TypeId} {b off n : Nat} {cs : List Value} (cs' : List Value) [TSize P t n] (hx : evx env x = some (.pointer (some ⟨b, off, none⟩))) (hX : X = bk f b cs t0) (hy : evx env y = some v) (hn : v.cells.size = n) (hl : Nat.ble (off + n) cs.length = true) (h1 : v.cells.toList.all (·.oneCell') = true) (he : spl cs off v.cells.toList = cs')
    (h : K N env r ( bk f b cs' t0 :: C) (wpList P ops Q rest)) : K N env r ( X :: C) (wpList P ops Q (⟨none, .store t x y, ty, pos, after, none⟩ :: rest)) := by
  subst hX he
  exact k_storeG (A :=  []) hx hy hn (Nat.le_of_ble_eq_true hl) h1 h
/-- A store; what it leaves is told. -/
theorem k_stE1 {o0 X : Own} {C : List Own} {f : Bool} {x y : Operand} {t t0 : TypeId} {b off n : Nat} {cs : List Value} (cs' : List Value) [TSize P t n] (hx : evx env x = some (.pointer (some ⟨b, off, none⟩))) (hX : X = bk f b cs t0) (hy : evx env y = some v) (hn : v.cells.size = n) (hl : Nat.ble (off + n) cs.length = true) (h1 : v.cells.toList.all (·.oneCell') = true) (he : spl cs off v.cells.toList = cs')
    (h : K N env r (o0 :: bk f b cs' t0 :: C) (wpList P ops Q rest)) : K N env r (o0 :: X :: C) (wpList P ops Q (⟨none, .store t x y, ty, pos, after, none⟩ :: rest)) := by
  subst hX he
  exact k_storeG (A := o0 :: []) hx hy hn (Nat.le_of_ble_eq_true hl) h1 h
/-- A store; what it leaves is told. -/
theorem k_stE2 {o0 o1 X : Own} {C : List Own} {f : Bool} {x y : Operand} {t t0 : TypeId} {b off n : Nat} {cs : List Value} (cs' : List Value) [TSize P t n] (hx : evx env x = some (.pointer (some ⟨b, off, none⟩))) (hX : X = bk f b cs t0) (hy : evx env y = some v) (hn : v.cells.size = n) (hl : Nat.ble (off + n) cs.length = true) (h1 : v.cells.toList.all (·.oneCell') = true) (he : spl cs off v.cells.toList = cs')
    (h : K N env r (o0 :: o1 :: bk f b cs' t0 :: C) (wpList P ops Q rest)) : K N env r (o0 :: o1 :: X :: C) (wpList P ops Q (⟨none, .store t x y, ty, pos, after, none⟩ :: rest)) := by
  subst hX he
  exact k_storeG (A := o0 :: o1 :: []) hx hy hn (Nat.le_of_ble_eq_true hl) h1 h
/-- A store; what it leaves is told. -/
theorem k_stE3 {o0 o1 o2 X : Own} {C : List Own} {f : Bool} {x y : Operand} {t t0 : TypeId} {b off n : Nat} {cs : List Value} (cs' : List Value) [TSize P t n] (hx : evx env x = some (.pointer (some ⟨b, off, none⟩))) (hX : X = bk f b cs t0) (hy : evx env y = some v) (hn : v.cells.size = n) (hl : Nat.ble (off + n) cs.length = true) (h1 : v.cells.toList.all (·.oneCell') = true) (he : spl cs off v.cells.toList = cs')
    (h : K N env r (o0 :: o1 :: o2 :: bk f b cs' t0 :: C) (wpList P ops Q rest)) : K N env r (o0 :: o1 :: o2 :: X :: C) (wpList P ops Q (⟨none, .store t x y, ty, pos, after, none⟩ :: rest)) := by
  subst hX he
  exact k_storeG (A := o0 :: o1 :: o2 :: []) hx hy hn (Nat.le_of_ble_eq_true hl) h1 h
/-- A store; what it leaves is told. -/
theorem k_stE4 {o0 o1 o2 o3 X : Own} {C : List Own} {f : Bool} {x y : Operand} {t t0 : TypeId} {b off n : Nat} {cs : List Value} (cs' : List Value) [TSize P t n] (hx : evx env x = some (.pointer (some ⟨b, off, none⟩))) (hX : X = bk f b cs t0) (hy : evx env y = some v) (hn : v.cells.size = n) (hl : Nat.ble (off + n) cs.length = true) (h1 : v.cells.toList.all (·.oneCell') = true) (he : spl cs off v.cells.toList = cs')
    (h : K N env r (o0 :: o1 :: o2 :: o3 :: bk f b cs' t0 :: C) (wpList P ops Q rest)) : K N env r (o0 :: o1 :: o2 :: o3 :: X :: C) (wpList P ops Q (⟨none, .store t x y, ty, pos, after, none⟩ :: rest)) := by
  subst hX he
  exact k_storeG (A := o0 :: o1 :: o2 :: o3 :: []) hx hy hn (Nat.le_of_ble_eq_true hl) h1 h
/-- A store; what it leaves is told. -/
theorem k_stE5 {o0 o1 o2 o3 o4 X : Own} {C : List Own} {f : Bool} {x y : Operand} {t t0 : TypeId} {b off n : Nat} {cs : List Value} (cs' : List Value) [TSize P t n] (hx : evx env x = some (.pointer (some ⟨b, off, none⟩))) (hX : X = bk f b cs t0) (hy : evx env y = some v) (hn : v.cells.size = n) (hl : Nat.ble (off + n) cs.length = true) (h1 : v.cells.toList.all (·.oneCell') = true) (he : spl cs off v.cells.toList = cs')
    (h : K N env r (o0 :: o1 :: o2 :: o3 :: o4 :: bk f b cs' t0 :: C) (wpList P ops Q rest)) : K N env r (o0 :: o1 :: o2 :: o3 :: o4 :: X :: C) (wpList P ops Q (⟨none, .store t x y, ty, pos, after, none⟩ :: rest)) := by
  subst hX he
  exact k_storeG (A := o0 :: o1 :: o2 :: o3 :: o4 :: []) hx hy hn (Nat.le_of_ble_eq_true hl) h1 h
/-- A store; what it leaves is told. -/
theorem k_stE6 {o0 o1 o2 o3 o4 o5 X : Own} {C : List Own} {f : Bool} {x y : Operand} {t t0 : TypeId} {b off n : Nat} {cs : List Value} (cs' : List Value) [TSize P t n] (hx : evx env x = some (.pointer (some ⟨b, off, none⟩))) (hX : X = bk f b cs t0) (hy : evx env y = some v) (hn : v.cells.size = n) (hl : Nat.ble (off + n) cs.length = true) (h1 : v.cells.toList.all (·.oneCell') = true) (he : spl cs off v.cells.toList = cs')
    (h : K N env r (o0 :: o1 :: o2 :: o3 :: o4 :: o5 :: bk f b cs' t0 :: C) (wpList P ops Q rest)) : K N env r (o0 :: o1 :: o2 :: o3 :: o4 :: o5 :: X :: C) (wpList P ops Q (⟨none, .store t x y, ty, pos, after, none⟩ :: rest)) := by
  subst hX he
  exact k_storeG (A := o0 :: o1 :: o2 :: o3 :: o4 :: o5 :: []) hx hy hn (Nat.le_of_ble_eq_true hl) h1 h
/-- A store; what it leaves is told. -/
theorem k_stE7 {o0 o1 o2 o3 o4 o5 o6 X : Own} {C : List Own} {f : Bool} {x y : Operand} {t t0 : TypeId} {b off n : Nat} {cs : List Value} (cs' : List Value) [TSize P t n] (hx : evx env x = some (.pointer (some ⟨b, off, none⟩))) (hX : X = bk f b cs t0) (hy : evx env y = some v) (hn : v.cells.size = n) (hl : Nat.ble (off + n) cs.length = true) (h1 : v.cells.toList.all (·.oneCell') = true) (he : spl cs off v.cells.toList = cs')
    (h : K N env r (o0 :: o1 :: o2 :: o3 :: o4 :: o5 :: o6 :: bk f b cs' t0 :: C) (wpList P ops Q rest)) : K N env r (o0 :: o1 :: o2 :: o3 :: o4 :: o5 :: o6 :: X :: C) (wpList P ops Q (⟨none, .store t x y, ty, pos, after, none⟩ :: rest)) := by
  subst hX he
  exact k_storeG (A := o0 :: o1 :: o2 :: o3 :: o4 :: o5 :: o6 :: []) hx hy hn (Nat.le_of_ble_eq_true hl) h1 h
/-- A store; what it leaves is told. -/
theorem k_stE8 {o0 o1 o2 o3 o4 o5 o6 o7 X : Own} {C : List Own} {f : Bool} {x y : Operand} {t t0 : TypeId} {b off n : Nat} {cs : List Value} (cs' : List Value) [TSize P t n] (hx : evx env x = some (.pointer (some ⟨b, off, none⟩))) (hX : X = bk f b cs t0) (hy : evx env y = some v) (hn : v.cells.size = n) (hl : Nat.ble (off + n) cs.length = true) (h1 : v.cells.toList.all (·.oneCell') = true) (he : spl cs off v.cells.toList = cs')
    (h : K N env r (o0 :: o1 :: o2 :: o3 :: o4 :: o5 :: o6 :: o7 :: bk f b cs' t0 :: C) (wpList P ops Q rest)) : K N env r (o0 :: o1 :: o2 :: o3 :: o4 :: o5 :: o6 :: o7 :: X :: C) (wpList P ops Q (⟨none, .store t x y, ty, pos, after, none⟩ :: rest)) := by
  subst hX he
  exact k_storeG (A := o0 :: o1 :: o2 :: o3 :: o4 :: o5 :: o6 :: o7 :: []) hx hy hn (Nat.le_of_ble_eq_true hl) h1 h
/-- A store; what it leaves is told. -/
theorem k_stE9 {o0 o1 o2 o3 o4 o5 o6 o7 o8 X : Own} {C : List Own} {f : Bool} {x y : Operand} {t t0 : TypeId} {b off n : Nat} {cs : List Value} (cs' : List Value) [TSize P t n] (hx : evx env x = some (.pointer (some ⟨b, off, none⟩))) (hX : X = bk f b cs t0) (hy : evx env y = some v) (hn : v.cells.size = n) (hl : Nat.ble (off + n) cs.length = true) (h1 : v.cells.toList.all (·.oneCell') = true) (he : spl cs off v.cells.toList = cs')
    (h : K N env r (o0 :: o1 :: o2 :: o3 :: o4 :: o5 :: o6 :: o7 :: o8 :: bk f b cs' t0 :: C) (wpList P ops Q rest)) : K N env r (o0 :: o1 :: o2 :: o3 :: o4 :: o5 :: o6 :: o7 :: o8 :: X :: C) (wpList P ops Q (⟨none, .store t x y, ty, pos, after, none⟩ :: rest)) := by
  subst hX he
  exact k_storeG (A := o0 :: o1 :: o2 :: o3 :: o4 :: o5 :: o6 :: o7 :: o8 :: []) hx hy hn (Nat.le_of_ble_eq_true hl) h1 h
/-! Appends to a row of the call's own. -/
theorem own_zero {base : Nat} {e : TypeId} {sz n : Nat} {v : Value} {xs : List Value} (h : w.ownsRow base e sz v n xs) : w.ownsRow 0 e sz v n xs := by
  obtain ⟨h1, h2⟩ := h
  refine ⟨h1, ?_⟩
  rcases h2 with h2 | ⟨g, cap, cur, h3, _, h4⟩
  · exact .inl h2
  · exact .inr ⟨g, cap, cur, h3, Nat.zero_le _, h4⟩
/-- A row that a callee has made is a part of its own. -/
theorem row_new {w w' : World} {e : TypeId} {sz n : Nat} {v : Value} {xs : List Value} (h : w'.ownsRow w.heap.size e sz v n xs) : (row false v n xs e sz).p w' ∧ ∀ b, (row false v n xs e sz).foot b → w.heap.size ≤ b ∧ b < w'.heap.size :=
  ⟨own_zero h, fun b hb => ⟨own_ge h b hb, own_lt h b hb⟩⟩
theorem k_appG {A C : List Own} {s x : Operand} {t e : TypeId} {z : Value} {size bytes : Nat} [ht : TElem P t e] [hi : TInfo P e z size bytes] {sv : Value} {n m c : Nat} {xs news : List Value} {ad : Addr}
    (hd : Nat.blt d N = true) (hs : evx env s = some sv) (hx : evx env x = some (.slice (some ad) m c)) (hnews : ∀ w, Sat r (A ++ row false sv n xs e size :: C) w → ∀ j u, news[j]? = some u → w.cell? (ad.add j) = some u) (hl : news.length = m * size) (h1 : news.all (·.oneCell') = true)
    (hzs : z.cells.size = size) (hsz : Nat.blt 0 size = true) (h63 : (n + m) * bytes ≤ 140737488355328) (h64 : n + m ≤ maxLen)
    (h : ∀ v', K N ((d, v') :: env) r (A ++ row false v' (n + m) (xs ++ news) e size :: C) (wpList P ops Q rest)) :
    K N env r (A ++ row false sv n xs e size :: C) (wpList P ops Q (⟨some d, .call { callee := .builtin .append, args := #[s, x], argTypes := #[t, t] }, ty, pos, after, none⟩ :: rest)) := by
  intro w hw
  have hown : w.ownsRow 0 e size sv n xs := (hw.all (row false sv n xs e size) (by simp)).1
  obtain ⟨i, hi1, hi2, hi3, hi4⟩ := info_parts hi.eq
  obtain ⟨v', w', hr, ho, hg, _, hat⟩ := run_append_own_at (P := P) w 0 t ty e i z size bytes ht.eq hi1 hi2 hi3 hi4 hzs (Nat.blt_eq ▸ hsz) sv n xs hown ad m c news hl (hnews w hw) (fun u hu => List.all_eq_true.1 h1 u hu) h64 h63 (Nat.zero_le _)
  intro a ha
  refine wpList_plain rfl (fun K hK => ?_)
  unfold Oper.wp
  rw [BigFrame.execOp_builtin]
  have e1 := ha.ev hs
  have e2 := ha.ev hx
  simp only [List.map_toArray, List.map_cons, List.map_nil, e1, e2, BigFrame.builtin_append, Sem.run_bind, hr, Result.andThen_ok, Sem.run_pure]
  refine hK _ _ (h v' w' (hw.upd (o' := row false v' (n + m) (xs ++ news) e size) hg.os hg.tape hg.output hg.size (fun k hk hne => hg.block k hk (fun e => hne e.symm)) ho (fun b hb => ⟨?_, own_lt ho b hb⟩) rfl (fun h => by cases h)) _ (ha.put hd v'))
  have hb' : v'.ownBlock = some b := hb
  rcases hat with h1 | h1
  · exact .inl (by show sv.ownBlock = some b; rw [← h1]; exact hb')
  · rw [hb'] at h1; injection h1 with h1; exact .inr (by omega)
/-- One element is appended. -/
theorem k_app1G {A C : List Own} {s x : Operand} {t e : TypeId} {z : Value} {size bytes : Nat} [ht : TElem P t e] [hi : TInfo P e z size bytes] {sv : Value} {n d1 : Nat} {xs cs : List Value} {ty1 : TypeId} {pos1 : String} {after1 : Array Edge}
    (hd : Nat.blt d N = true) (hd1 : Nat.blt d1 N = true) (hx : evx env x = some v) (hs : ∀ u, evx ((d1, u) :: env) s = some sv) (hcs : v.cells.toList = cs) (hcl : cs.length = size) (h1 : cs.all (·.oneCell') = true)
    (hzs : z.cells.size = size) (hsz : Nat.blt 0 size = true) (hsm : Nat.ble size 16777216 = true) (h63 : (n + 1) * bytes ≤ 140737488355328) (h64 : n + 1 ≤ maxLen)
    (h : ∀ v' u, K N ((d, v') :: (d1, u) :: env) r (A ++ row false v' (n + 1) (xs ++ cs) e size :: C) (wpList P ops Q rest)) :
    K N env r (A ++ row false sv n xs e size :: C) (wpList P ops Q (⟨some d1, .buildSlice t 1 #[(0, x)], ty1, pos1, after1, none⟩ :: ⟨some d, .call { callee := .builtin .append, args := #[s, .tmp d1], argTypes := #[t, t] }, ty, pos, after, none⟩ :: rest)) := by
  have hvs : v.cells.size = size := by rw [← hcl, ← hcs]; simp
  refine k_one hd1 hx hcs hvs hzs hsz hsm ?_
  intro b
  refine k_appG (A := bk false b cs e :: A) (xs := xs) (news := cs) (n := n) (m := 1) (c := 1) (ad := ⟨b, 0, none⟩) hd (hs _) (by simp [evx, look]) (fun w hw => Blk.cells (hw.all (bk false b cs e) (List.mem_cons_self ..)).1) (by rw [hcl]; omega) h1 hzs hsz h63 h64 ?_
  intro v' w hw
  exact h v' _ w (hw.sub (.drop rfl (SubO.rfl _)))
theorem k_app0 { X : Own} {C : List Own} {s x : Operand} {t e : TypeId} {z : Value} {size bytes : Nat} [ht : TElem P t e] [hi : TInfo P e z size bytes] {sv : Value} {n d1 : Nat} {xs cs : List Value} {ty1 : TypeId} {pos1 : String} {after1 : Array Edge}
    (hd : Nat.blt d N = true) (hd1 : Nat.blt d1 N = true) (hx : evx env x = some v) (hs : ∀ u, evx ((d1, u) :: env) s = some sv) (hX : X = row false sv n xs e size) (hcs : v.cells.toList = cs) (hcl : cs.length = size) (h1 : cs.all (·.oneCell') = true)
    (hzs : z.cells.size = size) (hsz : Nat.blt 0 size = true) (hsm : Nat.ble size 16777216 = true) (h63 : (n + 1) * bytes ≤ 140737488355328) (h64 : n + 1 ≤ maxLen)
    (h : ∀ v' u, K N ((d, v') :: (d1, u) :: env) r ( row false v' (n + 1) (xs ++ cs) e size :: C) (wpList P ops Q rest)) :
    K N env r ( X :: C) (wpList P ops Q (⟨some d1, .buildSlice t 1 #[(0, x)], ty1, pos1, after1, none⟩ :: ⟨some d, .call { callee := .builtin .append, args := #[s, .tmp d1], argTypes := #[t, t] }, ty, pos, after, none⟩ :: rest)) := by
  subst hX
  exact k_app1G (A :=  []) hd hd1 hx hs hcs hcl h1 hzs hsz hsm h63 h64 h
theorem k_app1 {o0 X : Own} {C : List Own} {s x : Operand} {t e : TypeId} {z : Value} {size bytes : Nat} [ht : TElem P t e] [hi : TInfo P e z size bytes] {sv : Value} {n d1 : Nat} {xs cs : List Value} {ty1 : TypeId} {pos1 : String} {after1 : Array Edge}
    (hd : Nat.blt d N = true) (hd1 : Nat.blt d1 N = true) (hx : evx env x = some v) (hs : ∀ u, evx ((d1, u) :: env) s = some sv) (hX : X = row false sv n xs e size) (hcs : v.cells.toList = cs) (hcl : cs.length = size) (h1 : cs.all (·.oneCell') = true)
    (hzs : z.cells.size = size) (hsz : Nat.blt 0 size = true) (hsm : Nat.ble size 16777216 = true) (h63 : (n + 1) * bytes ≤ 140737488355328) (h64 : n + 1 ≤ maxLen)
    (h : ∀ v' u, K N ((d, v') :: (d1, u) :: env) r (o0 :: row false v' (n + 1) (xs ++ cs) e size :: C) (wpList P ops Q rest)) :
    K N env r (o0 :: X :: C) (wpList P ops Q (⟨some d1, .buildSlice t 1 #[(0, x)], ty1, pos1, after1, none⟩ :: ⟨some d, .call { callee := .builtin .append, args := #[s, .tmp d1], argTypes := #[t, t] }, ty, pos, after, none⟩ :: rest)) := by
  subst hX
  exact k_app1G (A := o0 :: []) hd hd1 hx hs hcs hcl h1 hzs hsz hsm h63 h64 h
theorem k_app2 {o0 o1 X : Own} {C : List Own} {s x : Operand} {t e : TypeId} {z : Value} {size bytes : Nat} [ht : TElem P t e] [hi : TInfo P e z size bytes] {sv : Value} {n d1 : Nat} {xs cs : List Value} {ty1 : TypeId} {pos1 : String} {after1 : Array Edge}
    (hd : Nat.blt d N = true) (hd1 : Nat.blt d1 N = true) (hx : evx env x = some v) (hs : ∀ u, evx ((d1, u) :: env) s = some sv) (hX : X = row false sv n xs e size) (hcs : v.cells.toList = cs) (hcl : cs.length = size) (h1 : cs.all (·.oneCell') = true)
    (hzs : z.cells.size = size) (hsz : Nat.blt 0 size = true) (hsm : Nat.ble size 16777216 = true) (h63 : (n + 1) * bytes ≤ 140737488355328) (h64 : n + 1 ≤ maxLen)
    (h : ∀ v' u, K N ((d, v') :: (d1, u) :: env) r (o0 :: o1 :: row false v' (n + 1) (xs ++ cs) e size :: C) (wpList P ops Q rest)) :
    K N env r (o0 :: o1 :: X :: C) (wpList P ops Q (⟨some d1, .buildSlice t 1 #[(0, x)], ty1, pos1, after1, none⟩ :: ⟨some d, .call { callee := .builtin .append, args := #[s, .tmp d1], argTypes := #[t, t] }, ty, pos, after, none⟩ :: rest)) := by
  subst hX
  exact k_app1G (A := o0 :: o1 :: []) hd hd1 hx hs hcs hcl h1 hzs hsz hsm h63 h64 h
theorem k_app3 {o0 o1 o2 X : Own} {C : List Own} {s x : Operand} {t e : TypeId} {z : Value} {size bytes : Nat} [ht : TElem P t e] [hi : TInfo P e z size bytes] {sv : Value} {n d1 : Nat} {xs cs : List Value} {ty1 : TypeId} {pos1 : String} {after1 : Array Edge}
    (hd : Nat.blt d N = true) (hd1 : Nat.blt d1 N = true) (hx : evx env x = some v) (hs : ∀ u, evx ((d1, u) :: env) s = some sv) (hX : X = row false sv n xs e size) (hcs : v.cells.toList = cs) (hcl : cs.length = size) (h1 : cs.all (·.oneCell') = true)
    (hzs : z.cells.size = size) (hsz : Nat.blt 0 size = true) (hsm : Nat.ble size 16777216 = true) (h63 : (n + 1) * bytes ≤ 140737488355328) (h64 : n + 1 ≤ maxLen)
    (h : ∀ v' u, K N ((d, v') :: (d1, u) :: env) r (o0 :: o1 :: o2 :: row false v' (n + 1) (xs ++ cs) e size :: C) (wpList P ops Q rest)) :
    K N env r (o0 :: o1 :: o2 :: X :: C) (wpList P ops Q (⟨some d1, .buildSlice t 1 #[(0, x)], ty1, pos1, after1, none⟩ :: ⟨some d, .call { callee := .builtin .append, args := #[s, .tmp d1], argTypes := #[t, t] }, ty, pos, after, none⟩ :: rest)) := by
  subst hX
  exact k_app1G (A := o0 :: o1 :: o2 :: []) hd hd1 hx hs hcs hcl h1 hzs hsz hsm h63 h64 h
theorem k_app4 {o0 o1 o2 o3 X : Own} {C : List Own} {s x : Operand} {t e : TypeId} {z : Value} {size bytes : Nat} [ht : TElem P t e] [hi : TInfo P e z size bytes] {sv : Value} {n d1 : Nat} {xs cs : List Value} {ty1 : TypeId} {pos1 : String} {after1 : Array Edge}
    (hd : Nat.blt d N = true) (hd1 : Nat.blt d1 N = true) (hx : evx env x = some v) (hs : ∀ u, evx ((d1, u) :: env) s = some sv) (hX : X = row false sv n xs e size) (hcs : v.cells.toList = cs) (hcl : cs.length = size) (h1 : cs.all (·.oneCell') = true)
    (hzs : z.cells.size = size) (hsz : Nat.blt 0 size = true) (hsm : Nat.ble size 16777216 = true) (h63 : (n + 1) * bytes ≤ 140737488355328) (h64 : n + 1 ≤ maxLen)
    (h : ∀ v' u, K N ((d, v') :: (d1, u) :: env) r (o0 :: o1 :: o2 :: o3 :: row false v' (n + 1) (xs ++ cs) e size :: C) (wpList P ops Q rest)) :
    K N env r (o0 :: o1 :: o2 :: o3 :: X :: C) (wpList P ops Q (⟨some d1, .buildSlice t 1 #[(0, x)], ty1, pos1, after1, none⟩ :: ⟨some d, .call { callee := .builtin .append, args := #[s, .tmp d1], argTypes := #[t, t] }, ty, pos, after, none⟩ :: rest)) := by
  subst hX
  exact k_app1G (A := o0 :: o1 :: o2 :: o3 :: []) hd hd1 hx hs hcs hcl h1 hzs hsz hsm h63 h64 h
theorem k_app5 {o0 o1 o2 o3 o4 X : Own} {C : List Own} {s x : Operand} {t e : TypeId} {z : Value} {size bytes : Nat} [ht : TElem P t e] [hi : TInfo P e z size bytes] {sv : Value} {n d1 : Nat} {xs cs : List Value} {ty1 : TypeId} {pos1 : String} {after1 : Array Edge}
    (hd : Nat.blt d N = true) (hd1 : Nat.blt d1 N = true) (hx : evx env x = some v) (hs : ∀ u, evx ((d1, u) :: env) s = some sv) (hX : X = row false sv n xs e size) (hcs : v.cells.toList = cs) (hcl : cs.length = size) (h1 : cs.all (·.oneCell') = true)
    (hzs : z.cells.size = size) (hsz : Nat.blt 0 size = true) (hsm : Nat.ble size 16777216 = true) (h63 : (n + 1) * bytes ≤ 140737488355328) (h64 : n + 1 ≤ maxLen)
    (h : ∀ v' u, K N ((d, v') :: (d1, u) :: env) r (o0 :: o1 :: o2 :: o3 :: o4 :: row false v' (n + 1) (xs ++ cs) e size :: C) (wpList P ops Q rest)) :
    K N env r (o0 :: o1 :: o2 :: o3 :: o4 :: X :: C) (wpList P ops Q (⟨some d1, .buildSlice t 1 #[(0, x)], ty1, pos1, after1, none⟩ :: ⟨some d, .call { callee := .builtin .append, args := #[s, .tmp d1], argTypes := #[t, t] }, ty, pos, after, none⟩ :: rest)) := by
  subst hX
  exact k_app1G (A := o0 :: o1 :: o2 :: o3 :: o4 :: []) hd hd1 hx hs hcs hcl h1 hzs hsz hsm h63 h64 h
theorem k_app6 {o0 o1 o2 o3 o4 o5 X : Own} {C : List Own} {s x : Operand} {t e : TypeId} {z : Value} {size bytes : Nat} [ht : TElem P t e] [hi : TInfo P e z size bytes] {sv : Value} {n d1 : Nat} {xs cs : List Value} {ty1 : TypeId} {pos1 : String} {after1 : Array Edge}
    (hd : Nat.blt d N = true) (hd1 : Nat.blt d1 N = true) (hx : evx env x = some v) (hs : ∀ u, evx ((d1, u) :: env) s = some sv) (hX : X = row false sv n xs e size) (hcs : v.cells.toList = cs) (hcl : cs.length = size) (h1 : cs.all (·.oneCell') = true)
    (hzs : z.cells.size = size) (hsz : Nat.blt 0 size = true) (hsm : Nat.ble size 16777216 = true) (h63 : (n + 1) * bytes ≤ 140737488355328) (h64 : n + 1 ≤ maxLen)
    (h : ∀ v' u, K N ((d, v') :: (d1, u) :: env) r (o0 :: o1 :: o2 :: o3 :: o4 :: o5 :: row false v' (n + 1) (xs ++ cs) e size :: C) (wpList P ops Q rest)) :
    K N env r (o0 :: o1 :: o2 :: o3 :: o4 :: o5 :: X :: C) (wpList P ops Q (⟨some d1, .buildSlice t 1 #[(0, x)], ty1, pos1, after1, none⟩ :: ⟨some d, .call { callee := .builtin .append, args := #[s, .tmp d1], argTypes := #[t, t] }, ty, pos, after, none⟩ :: rest)) := by
  subst hX
  exact k_app1G (A := o0 :: o1 :: o2 :: o3 :: o4 :: o5 :: []) hd hd1 hx hs hcs hcl h1 hzs hsz hsm h63 h64 h
theorem k_app7 {o0 o1 o2 o3 o4 o5 o6 X : Own} {C : List Own} {s x : Operand} {t e : TypeId} {z : Value} {size bytes : Nat} [ht : TElem P t e] [hi : TInfo P e z size bytes] {sv : Value} {n d1 : Nat} {xs cs : List Value} {ty1 : TypeId} {pos1 : String} {after1 : Array Edge}
    (hd : Nat.blt d N = true) (hd1 : Nat.blt d1 N = true) (hx : evx env x = some v) (hs : ∀ u, evx ((d1, u) :: env) s = some sv) (hX : X = row false sv n xs e size) (hcs : v.cells.toList = cs) (hcl : cs.length = size) (h1 : cs.all (·.oneCell') = true)
    (hzs : z.cells.size = size) (hsz : Nat.blt 0 size = true) (hsm : Nat.ble size 16777216 = true) (h63 : (n + 1) * bytes ≤ 140737488355328) (h64 : n + 1 ≤ maxLen)
    (h : ∀ v' u, K N ((d, v') :: (d1, u) :: env) r (o0 :: o1 :: o2 :: o3 :: o4 :: o5 :: o6 :: row false v' (n + 1) (xs ++ cs) e size :: C) (wpList P ops Q rest)) :
    K N env r (o0 :: o1 :: o2 :: o3 :: o4 :: o5 :: o6 :: X :: C) (wpList P ops Q (⟨some d1, .buildSlice t 1 #[(0, x)], ty1, pos1, after1, none⟩ :: ⟨some d, .call { callee := .builtin .append, args := #[s, .tmp d1], argTypes := #[t, t] }, ty, pos, after, none⟩ :: rest)) := by
  subst hX
  exact k_app1G (A := o0 :: o1 :: o2 :: o3 :: o4 :: o5 :: o6 :: []) hd hd1 hx hs hcs hcl h1 hzs hsz hsm h63 h64 h
theorem k_app8 {o0 o1 o2 o3 o4 o5 o6 o7 X : Own} {C : List Own} {s x : Operand} {t e : TypeId} {z : Value} {size bytes : Nat} [ht : TElem P t e] [hi : TInfo P e z size bytes] {sv : Value} {n d1 : Nat} {xs cs : List Value} {ty1 : TypeId} {pos1 : String} {after1 : Array Edge}
    (hd : Nat.blt d N = true) (hd1 : Nat.blt d1 N = true) (hx : evx env x = some v) (hs : ∀ u, evx ((d1, u) :: env) s = some sv) (hX : X = row false sv n xs e size) (hcs : v.cells.toList = cs) (hcl : cs.length = size) (h1 : cs.all (·.oneCell') = true)
    (hzs : z.cells.size = size) (hsz : Nat.blt 0 size = true) (hsm : Nat.ble size 16777216 = true) (h63 : (n + 1) * bytes ≤ 140737488355328) (h64 : n + 1 ≤ maxLen)
    (h : ∀ v' u, K N ((d, v') :: (d1, u) :: env) r (o0 :: o1 :: o2 :: o3 :: o4 :: o5 :: o6 :: o7 :: row false v' (n + 1) (xs ++ cs) e size :: C) (wpList P ops Q rest)) :
    K N env r (o0 :: o1 :: o2 :: o3 :: o4 :: o5 :: o6 :: o7 :: X :: C) (wpList P ops Q (⟨some d1, .buildSlice t 1 #[(0, x)], ty1, pos1, after1, none⟩ :: ⟨some d, .call { callee := .builtin .append, args := #[s, .tmp d1], argTypes := #[t, t] }, ty, pos, after, none⟩ :: rest)) := by
  subst hX
  exact k_app1G (A := o0 :: o1 :: o2 :: o3 :: o4 :: o5 :: o6 :: o7 :: []) hd hd1 hx hs hcs hcl h1 hzs hsz hsm h63 h64 h
theorem k_app9 {o0 o1 o2 o3 o4 o5 o6 o7 o8 X : Own} {C : List Own} {s x : Operand} {t e : TypeId} {z : Value} {size bytes : Nat} [ht : TElem P t e] [hi : TInfo P e z size bytes] {sv : Value} {n d1 : Nat} {xs cs : List Value} {ty1 : TypeId} {pos1 : String} {after1 : Array Edge}
    (hd : Nat.blt d N = true) (hd1 : Nat.blt d1 N = true) (hx : evx env x = some v) (hs : ∀ u, evx ((d1, u) :: env) s = some sv) (hX : X = row false sv n xs e size) (hcs : v.cells.toList = cs) (hcl : cs.length = size) (h1 : cs.all (·.oneCell') = true)
    (hzs : z.cells.size = size) (hsz : Nat.blt 0 size = true) (hsm : Nat.ble size 16777216 = true) (h63 : (n + 1) * bytes ≤ 140737488355328) (h64 : n + 1 ≤ maxLen)
    (h : ∀ v' u, K N ((d, v') :: (d1, u) :: env) r (o0 :: o1 :: o2 :: o3 :: o4 :: o5 :: o6 :: o7 :: o8 :: row false v' (n + 1) (xs ++ cs) e size :: C) (wpList P ops Q rest)) :
    K N env r (o0 :: o1 :: o2 :: o3 :: o4 :: o5 :: o6 :: o7 :: o8 :: X :: C) (wpList P ops Q (⟨some d1, .buildSlice t 1 #[(0, x)], ty1, pos1, after1, none⟩ :: ⟨some d, .call { callee := .builtin .append, args := #[s, .tmp d1], argTypes := #[t, t] }, ty, pos, after, none⟩ :: rest)) := by
  subst hX
  exact k_app1G (A := o0 :: o1 :: o2 :: o3 :: o4 :: o5 :: o6 :: o7 :: o8 :: []) hd hd1 hx hs hcs hcl h1 hzs hsz hsm h63 h64 h
/-- A nil slice is a row of the call's own. -/
theorem k_nilrow {F : Act → World → Prop} (e : TypeId) (sz : Nat) (h : K N env r (row false (.slice none 0 0) 0 [] e sz :: O) F) : K N env r O F := fun w hw =>
  h w (hw.add (Below.refl _ _) (own_none _ _ _ _) (fun b hb => by cases (hb : (none : Option Nat) = some b)) rfl)
theorem k_rowslice {F : Act → World → Prop} (i : Nat) {f : Bool} {v : Value} {n : Nat} {xs : List Value} {e : TypeId} {sz : Nat} (hO : nthO O i = some (row f v n xs e sz)) (h : (∃ ea cap, v = .slice ea n cap) → K N env r O F) : K N env r O F := fun w hw => h (own_slice (hw.row i hO)) w hw
theorem ov_lenrow {f : Bool} {n : Nat} {xs : List Value} {t e : TypeId} {sz : Nat} {x : Operand} {u : Value} [TElem P t e] (i : Nat) (hw : Sat r O w) (hx : evx env x = some u) (hO : nthO O i = some (row f u n xs e sz)) : OV P env (.call { callee := .builtin .len, args := #[x], argTypes := #[t] }) w (.int .i64 n) := by
  obtain ⟨ea, cap, rfl⟩ := own_slice (hw.row i hO)
  exact ov_len_slice hx

/-! Calls. -/
theorem k_call {f : FuncId} {xs : Array Operand} {ats : Array TypeId} {args : List Value} {R : World → Ending → World → Prop} (hc : callable P f = true) (hd : Nat.blt d N = true) (hx : evs env xs.toList = some args) (hC : ∀ w, Sat r O w → Calls P f args.toArray w (R w))
    (h : ∀ w e w', Sat r O w → R w e w' → ∃ v, e = .returned v ∧ J N ((d, v) :: env) w' (wpList P ops Q rest)) :
    K N env r O (wpList P ops Q (⟨some d, .call { callee := .value (.func f), args := xs, argTypes := ats }, ty, pos, after, none⟩ :: rest)) :=
  fun w hw => j_call hc hd hx (hC w hw) fun e w' hR => h w e w' hw hR
/-- The result is told; nothing elder has turned. -/
theorem k_callb {f : FuncId} {xs : Array Operand} {ats : Array TypeId} {args : List Value} (hc : callable P f = true) (hd : Nat.blt d N = true) (hx : evs env xs.toList = some args) (hC : ∀ w, Sat r O w → Calls P f args.toArray w fun e w' => e = .returned v ∧ Below w.heap.size w w')
    (h : K N ((d, v) :: env) r O (wpList P ops Q rest)) :
    K N env r O (wpList P ops Q (⟨some d, .call { callee := .value (.func f), args := xs, argTypes := ats }, ty, pos, after, none⟩ :: rest)) :=
  k_call hc hd hx hC fun _ _ w' hw hR => ⟨v, hR.1, h w' (hw.ext hR.2)⟩
theorem k_callw {f : FuncId} {xs : Array Operand} {ats : Array TypeId} {args : List Value} (hc : callable P f = true) (hd : Nat.blt d N = true) (hx : evs env xs.toList = some args) (hC : ∀ w, Sat r O w → Calls P f args.toArray w fun e w' => e = .returned v ∧ w = w')
    (h : K N ((d, v) :: env) r O (wpList P ops Q rest)) :
    K N env r O (wpList P ops Q (⟨some d, .call { callee := .value (.func f), args := xs, argTypes := ats }, ty, pos, after, none⟩ :: rest)) :=
  k_call hc hd hx hC fun _ _ w' hw hR => ⟨v, hR.1, h w' (hR.2 ▸ hw)⟩
/-- The result is one of several. -/
theorem k_calle {σ : Type} {val : σ → Value} {ok : σ → Prop} {f : FuncId} {xs : Array Operand} {ats : Array TypeId} {args : List Value} (hc : callable P f = true) (hd : Nat.blt d N = true) (hx : evs env xs.toList = some args) (hC : ∀ w, Sat r O w → Calls P f args.toArray w fun e w' => ∃ s, e = .returned (val s) ∧ ok s ∧ Below w.heap.size w w')
    (h : ∀ s, ok s → K N ((d, val s) :: env) r O (wpList P ops Q rest)) :
    K N env r O (wpList P ops Q (⟨some d, .call { callee := .value (.func f), args := xs, argTypes := ats }, ty, pos, after, none⟩ :: rest)) :=
  k_call hc hd hx hC fun _ _ w' hw ⟨s, h1, h2, h3⟩ => ⟨val s, h1, h s h2 w' (hw.ext h3)⟩
/-- The result brings a new part of memory. -/
theorem k_callo {σ : Type} {val : σ → Value} {ok : σ → Prop} {own : σ → Own} {f : FuncId} {xs : Array Operand} {ats : Array TypeId} {args : List Value} (hold : ∀ s, (own s).old = false) (hc : callable P f = true) (hd : Nat.blt d N = true) (hx : evs env xs.toList = some args)
    (hC : ∀ w, Sat r O w → Calls P f args.toArray w fun e w' => ∃ s, e = .returned (val s) ∧ ok s ∧ ((own s).p w' ∧ ∀ b, (own s).foot b → w.heap.size ≤ b ∧ b < w'.heap.size) ∧ Below w.heap.size w w')
    (h : ∀ s, ok s → K N ((d, val s) :: env) r (own s :: O) (wpList P ops Q rest)) :
    K N env r O (wpList P ops Q (⟨some d, .call { callee := .value (.func f), args := xs, argTypes := ats }, ty, pos, after, none⟩ :: rest)) :=
  k_call hc hd hx hC fun _ _ w' hw ⟨s, h1, h2, h3, h4⟩ => ⟨val s, h1, h s h2 w' (hw.add h4 h3.1 h3.2 (hold s))⟩
/-- The result is a row of the caller's own. -/
theorem k_callr {f : FuncId} {xs : Array Operand} {ats : Array TypeId} {args : List Value} {e : TypeId} {sz n : Nat} {ys : List Value} (hc : callable P f = true) (hd : Nat.blt d N = true) (hx : evs env xs.toList = some args)
    (hC : ∀ w, Sat r O w → Calls P f args.toArray w fun e' w' => ∃ v, e' = .returned v ∧ w'.ownsRow w.heap.size e sz v n ys ∧ Below w.heap.size w w')
    (h : ∀ v, K N ((d, v) :: env) r (row false v n ys e sz :: O) (wpList P ops Q rest)) :
    K N env r O (wpList P ops Q (⟨some d, .call { callee := .value (.func f), args := xs, argTypes := ats }, ty, pos, after, none⟩ :: rest)) :=
  k_call hc hd hx hC fun _ _ w' hw ⟨v, h1, h2, h3⟩ => ⟨v, h1, h v w' (hw.add h3 (row_new h2).1 (row_new h2).2 rfl)⟩
/-- The result points to a new block. -/
theorem k_callp {val : Nat → Value} {f : FuncId} {xs : Array Operand} {ats : Array TypeId} {args : List Value} {cs : List Value} {t : TypeId} (hc : callable P f = true) (hd : Nat.blt d N = true) (hx : evs env xs.toList = some args)
    (hC : ∀ w, Sat r O w → Calls P f args.toArray w fun e w' => ∃ b, e = .returned (val b) ∧ Blk w' b cs t ∧ w.heap.size ≤ b ∧ Below w.heap.size w w')
    (h : ∀ b, K N ((d, val b) :: env) r (bk false b cs t :: O) (wpList P ops Q rest)) :
    K N env r O (wpList P ops Q (⟨some d, .call { callee := .value (.func f), args := xs, argTypes := ats }, ty, pos, after, none⟩ :: rest)) :=
  k_call hc hd hx hC fun w e w' hw ⟨b, h1, h2, h3, h4⟩ => ⟨val b, h1, h b w' (hw.add h4 h2 (fun k hk => by cases (hk : k = b); exact ⟨h3, h2.lt⟩) rfl)⟩
/-- The callee writes one block. -/
theorem k_callmG {A C : List Own} {ff : Bool} {b : Nat} {cs cs' : List Value} {t : TypeId} {f : FuncId} {xs : Array Operand} {ats : Array TypeId} {args : List Value} (hc : callable P f = true) (hd : Nat.blt d N = true) (hx : evs env xs.toList = some args)
    (hC : ∀ w, Sat r (A ++ bk ff b cs t :: C) w → Calls P f args.toArray w fun e w' => e = .returned v ∧ Blk w' b cs' t ∧ w.grownBy w' (some b))
    (h : K N ((d, v) :: env) r (A ++ bk ff b cs' t :: C) (wpList P ops Q rest)) :
    K N env r (A ++ bk ff b cs t :: C) (wpList P ops Q (⟨some d, .call { callee := .value (.func f), args := xs, argTypes := ats }, ty, pos, after, none⟩ :: rest)) :=
  k_call hc hd hx hC fun w e w' hw ⟨h1, h2, h3⟩ => ⟨v, h1, h w' (hw.upd h3.os h3.tape h3.output h3.size (fun k hk hne => h3.block k hk (fun e => hne (by injection e with e))) h2 (fun k hk => ⟨.inl hk, by cases (hk : k = b); exact h2.lt⟩) rfl (fun _ k hk => hk))⟩
theorem k_callm0 { X : Own} {C : List Own} {ff : Bool} {b : Nat} {cs cs' : List Value} {t : TypeId} {f : FuncId} {xs : Array Operand} {ats : Array TypeId} {args : List Value} (hc : callable P f = true) (hd : Nat.blt d N = true) (hx : evs env xs.toList = some args) (hX : X = bk ff b cs t)
    (hC : ∀ w, Sat r ( X :: C) w → Calls P f args.toArray w fun e w' => e = .returned v ∧ Blk w' b cs' t ∧ w.grownBy w' (some b))
    (h : K N ((d, v) :: env) r ( bk ff b cs' t :: C) (wpList P ops Q rest)) :
    K N env r ( X :: C) (wpList P ops Q (⟨some d, .call { callee := .value (.func f), args := xs, argTypes := ats }, ty, pos, after, none⟩ :: rest)) := by
  subst hX
  exact k_callmG (A :=  []) hc hd hx hC h
theorem k_callm1 {o0 X : Own} {C : List Own} {ff : Bool} {b : Nat} {cs cs' : List Value} {t : TypeId} {f : FuncId} {xs : Array Operand} {ats : Array TypeId} {args : List Value} (hc : callable P f = true) (hd : Nat.blt d N = true) (hx : evs env xs.toList = some args) (hX : X = bk ff b cs t)
    (hC : ∀ w, Sat r (o0 :: X :: C) w → Calls P f args.toArray w fun e w' => e = .returned v ∧ Blk w' b cs' t ∧ w.grownBy w' (some b))
    (h : K N ((d, v) :: env) r (o0 :: bk ff b cs' t :: C) (wpList P ops Q rest)) :
    K N env r (o0 :: X :: C) (wpList P ops Q (⟨some d, .call { callee := .value (.func f), args := xs, argTypes := ats }, ty, pos, after, none⟩ :: rest)) := by
  subst hX
  exact k_callmG (A := o0 :: []) hc hd hx hC h
theorem k_callm2 {o0 o1 X : Own} {C : List Own} {ff : Bool} {b : Nat} {cs cs' : List Value} {t : TypeId} {f : FuncId} {xs : Array Operand} {ats : Array TypeId} {args : List Value} (hc : callable P f = true) (hd : Nat.blt d N = true) (hx : evs env xs.toList = some args) (hX : X = bk ff b cs t)
    (hC : ∀ w, Sat r (o0 :: o1 :: X :: C) w → Calls P f args.toArray w fun e w' => e = .returned v ∧ Blk w' b cs' t ∧ w.grownBy w' (some b))
    (h : K N ((d, v) :: env) r (o0 :: o1 :: bk ff b cs' t :: C) (wpList P ops Q rest)) :
    K N env r (o0 :: o1 :: X :: C) (wpList P ops Q (⟨some d, .call { callee := .value (.func f), args := xs, argTypes := ats }, ty, pos, after, none⟩ :: rest)) := by
  subst hX
  exact k_callmG (A := o0 :: o1 :: []) hc hd hx hC h
theorem k_callm3 {o0 o1 o2 X : Own} {C : List Own} {ff : Bool} {b : Nat} {cs cs' : List Value} {t : TypeId} {f : FuncId} {xs : Array Operand} {ats : Array TypeId} {args : List Value} (hc : callable P f = true) (hd : Nat.blt d N = true) (hx : evs env xs.toList = some args) (hX : X = bk ff b cs t)
    (hC : ∀ w, Sat r (o0 :: o1 :: o2 :: X :: C) w → Calls P f args.toArray w fun e w' => e = .returned v ∧ Blk w' b cs' t ∧ w.grownBy w' (some b))
    (h : K N ((d, v) :: env) r (o0 :: o1 :: o2 :: bk ff b cs' t :: C) (wpList P ops Q rest)) :
    K N env r (o0 :: o1 :: o2 :: X :: C) (wpList P ops Q (⟨some d, .call { callee := .value (.func f), args := xs, argTypes := ats }, ty, pos, after, none⟩ :: rest)) := by
  subst hX
  exact k_callmG (A := o0 :: o1 :: o2 :: []) hc hd hx hC h
theorem k_callm4 {o0 o1 o2 o3 X : Own} {C : List Own} {ff : Bool} {b : Nat} {cs cs' : List Value} {t : TypeId} {f : FuncId} {xs : Array Operand} {ats : Array TypeId} {args : List Value} (hc : callable P f = true) (hd : Nat.blt d N = true) (hx : evs env xs.toList = some args) (hX : X = bk ff b cs t)
    (hC : ∀ w, Sat r (o0 :: o1 :: o2 :: o3 :: X :: C) w → Calls P f args.toArray w fun e w' => e = .returned v ∧ Blk w' b cs' t ∧ w.grownBy w' (some b))
    (h : K N ((d, v) :: env) r (o0 :: o1 :: o2 :: o3 :: bk ff b cs' t :: C) (wpList P ops Q rest)) :
    K N env r (o0 :: o1 :: o2 :: o3 :: X :: C) (wpList P ops Q (⟨some d, .call { callee := .value (.func f), args := xs, argTypes := ats }, ty, pos, after, none⟩ :: rest)) := by
  subst hX
  exact k_callmG (A := o0 :: o1 :: o2 :: o3 :: []) hc hd hx hC h
theorem k_callm5 {o0 o1 o2 o3 o4 X : Own} {C : List Own} {ff : Bool} {b : Nat} {cs cs' : List Value} {t : TypeId} {f : FuncId} {xs : Array Operand} {ats : Array TypeId} {args : List Value} (hc : callable P f = true) (hd : Nat.blt d N = true) (hx : evs env xs.toList = some args) (hX : X = bk ff b cs t)
    (hC : ∀ w, Sat r (o0 :: o1 :: o2 :: o3 :: o4 :: X :: C) w → Calls P f args.toArray w fun e w' => e = .returned v ∧ Blk w' b cs' t ∧ w.grownBy w' (some b))
    (h : K N ((d, v) :: env) r (o0 :: o1 :: o2 :: o3 :: o4 :: bk ff b cs' t :: C) (wpList P ops Q rest)) :
    K N env r (o0 :: o1 :: o2 :: o3 :: o4 :: X :: C) (wpList P ops Q (⟨some d, .call { callee := .value (.func f), args := xs, argTypes := ats }, ty, pos, after, none⟩ :: rest)) := by
  subst hX
  exact k_callmG (A := o0 :: o1 :: o2 :: o3 :: o4 :: []) hc hd hx hC h
theorem k_callm6 {o0 o1 o2 o3 o4 o5 X : Own} {C : List Own} {ff : Bool} {b : Nat} {cs cs' : List Value} {t : TypeId} {f : FuncId} {xs : Array Operand} {ats : Array TypeId} {args : List Value} (hc : callable P f = true) (hd : Nat.blt d N = true) (hx : evs env xs.toList = some args) (hX : X = bk ff b cs t)
    (hC : ∀ w, Sat r (o0 :: o1 :: o2 :: o3 :: o4 :: o5 :: X :: C) w → Calls P f args.toArray w fun e w' => e = .returned v ∧ Blk w' b cs' t ∧ w.grownBy w' (some b))
    (h : K N ((d, v) :: env) r (o0 :: o1 :: o2 :: o3 :: o4 :: o5 :: bk ff b cs' t :: C) (wpList P ops Q rest)) :
    K N env r (o0 :: o1 :: o2 :: o3 :: o4 :: o5 :: X :: C) (wpList P ops Q (⟨some d, .call { callee := .value (.func f), args := xs, argTypes := ats }, ty, pos, after, none⟩ :: rest)) := by
  subst hX
  exact k_callmG (A := o0 :: o1 :: o2 :: o3 :: o4 :: o5 :: []) hc hd hx hC h
theorem k_callm7 {o0 o1 o2 o3 o4 o5 o6 X : Own} {C : List Own} {ff : Bool} {b : Nat} {cs cs' : List Value} {t : TypeId} {f : FuncId} {xs : Array Operand} {ats : Array TypeId} {args : List Value} (hc : callable P f = true) (hd : Nat.blt d N = true) (hx : evs env xs.toList = some args) (hX : X = bk ff b cs t)
    (hC : ∀ w, Sat r (o0 :: o1 :: o2 :: o3 :: o4 :: o5 :: o6 :: X :: C) w → Calls P f args.toArray w fun e w' => e = .returned v ∧ Blk w' b cs' t ∧ w.grownBy w' (some b))
    (h : K N ((d, v) :: env) r (o0 :: o1 :: o2 :: o3 :: o4 :: o5 :: o6 :: bk ff b cs' t :: C) (wpList P ops Q rest)) :
    K N env r (o0 :: o1 :: o2 :: o3 :: o4 :: o5 :: o6 :: X :: C) (wpList P ops Q (⟨some d, .call { callee := .value (.func f), args := xs, argTypes := ats }, ty, pos, after, none⟩ :: rest)) := by
  subst hX
  exact k_callmG (A := o0 :: o1 :: o2 :: o3 :: o4 :: o5 :: o6 :: []) hc hd hx hC h
theorem k_callm8 {o0 o1 o2 o3 o4 o5 o6 o7 X : Own} {C : List Own} {ff : Bool} {b : Nat} {cs cs' : List Value} {t : TypeId} {f : FuncId} {xs : Array Operand} {ats : Array TypeId} {args : List Value} (hc : callable P f = true) (hd : Nat.blt d N = true) (hx : evs env xs.toList = some args) (hX : X = bk ff b cs t)
    (hC : ∀ w, Sat r (o0 :: o1 :: o2 :: o3 :: o4 :: o5 :: o6 :: o7 :: X :: C) w → Calls P f args.toArray w fun e w' => e = .returned v ∧ Blk w' b cs' t ∧ w.grownBy w' (some b))
    (h : K N ((d, v) :: env) r (o0 :: o1 :: o2 :: o3 :: o4 :: o5 :: o6 :: o7 :: bk ff b cs' t :: C) (wpList P ops Q rest)) :
    K N env r (o0 :: o1 :: o2 :: o3 :: o4 :: o5 :: o6 :: o7 :: X :: C) (wpList P ops Q (⟨some d, .call { callee := .value (.func f), args := xs, argTypes := ats }, ty, pos, after, none⟩ :: rest)) := by
  subst hX
  exact k_callmG (A := o0 :: o1 :: o2 :: o3 :: o4 :: o5 :: o6 :: o7 :: []) hc hd hx hC h
theorem k_callm9 {o0 o1 o2 o3 o4 o5 o6 o7 o8 X : Own} {C : List Own} {ff : Bool} {b : Nat} {cs cs' : List Value} {t : TypeId} {f : FuncId} {xs : Array Operand} {ats : Array TypeId} {args : List Value} (hc : callable P f = true) (hd : Nat.blt d N = true) (hx : evs env xs.toList = some args) (hX : X = bk ff b cs t)
    (hC : ∀ w, Sat r (o0 :: o1 :: o2 :: o3 :: o4 :: o5 :: o6 :: o7 :: o8 :: X :: C) w → Calls P f args.toArray w fun e w' => e = .returned v ∧ Blk w' b cs' t ∧ w.grownBy w' (some b))
    (h : K N ((d, v) :: env) r (o0 :: o1 :: o2 :: o3 :: o4 :: o5 :: o6 :: o7 :: o8 :: bk ff b cs' t :: C) (wpList P ops Q rest)) :
    K N env r (o0 :: o1 :: o2 :: o3 :: o4 :: o5 :: o6 :: o7 :: o8 :: X :: C) (wpList P ops Q (⟨some d, .call { callee := .value (.func f), args := xs, argTypes := ats }, ty, pos, after, none⟩ :: rest)) := by
  subst hX
  exact k_callmG (A := o0 :: o1 :: o2 :: o3 :: o4 :: o5 :: o6 :: o7 :: o8 :: []) hc hd hx hC h
theorem k_calldo {f : FuncId} {xs : Array Operand} {ats : Array TypeId} {args : List Value} {R : World → Ending → World → Prop} (hc : callable P f = true) (hx : evs env xs.toList = some args) (hC : ∀ w, Sat r O w → Calls P f args.toArray w (R w))
    (h : ∀ w e w', Sat r O w → R w e w' → (∃ v, e = .returned v) ∧ J N env w' (wpList P ops Q rest)) :
    K N env r O (wpList P ops Q (⟨none, .call { callee := .value (.func f), args := xs, argTypes := ats }, ty, pos, after, none⟩ :: rest)) := by
  intro w hw a ha
  refine wpList_plain rfl (fun K hK => ?_)
  unfold Oper.wp
  have e : (execOp a.eval ⟨none, .call { callee := .value (.func f), args := xs, argTypes := ats }, ty, pos, after, none⟩).run P w = .ok (.enter f args.toArray) w := by
    unfold execOp
    have hm : xs.map a.eval = args.toArray := evs_map (fun h => ha.ev h) hx
    simp only [resolve, hm, Sem.run_bind]
    rw [ha.ev (x := .func f) rfl]
    simp [Deferred.ofValue, invoke, run_enter hc]
  rw [e]
  refine (hC w hw).mono ?_
  intro e w' hR
  obtain ⟨⟨v, rfl⟩, hj⟩ := h w e w' hw hR
  exact hK _ _ (hj _ ha)
/-- A function value is called. -/
theorem k_callv {f : FuncId} {g : Operand} {xs : Array Operand} {ats : Array TypeId} {args : List Value} {cap : Array Value} {R : World → Ending → World → Prop} (hc : callable P f = true) (hd : Nat.blt d N = true) (hg : evx env g = some (.func (.func f) #[] cap)) (hx : evs env xs.toList = some args) (hC : ∀ w, Sat r O w → Calls P f (args.toArray ++ cap) w (R w))
    (h : ∀ w e w', Sat r O w → R w e w' → ∃ v, e = .returned v ∧ J N ((d, v) :: env) w' (wpList P ops Q rest)) :
    K N env r O (wpList P ops Q (⟨some d, .call { callee := .value g, args := xs, argTypes := ats }, ty, pos, after, none⟩ :: rest)) :=
  fun w hw => j_callv hc hd hg hx (hC w hw) fun e w' hR => h w e w' hw hR
theorem k_callvb {f : FuncId} {g : Operand} {xs : Array Operand} {ats : Array TypeId} {args : List Value} {cap full : Array Value} (hc : callable P f = true) (hd : Nat.blt d N = true) (hC : ∀ w, Sat r O w → Calls P f full w fun e w' => e = .returned v ∧ Below w.heap.size w w') (hg : evx env g = some (.func (.func f) #[] cap)) (hx : evs env xs.toList = some args) (hfull : args.toArray ++ cap = full)
    (h : K N ((d, v) :: env) r O (wpList P ops Q rest)) :
    K N env r O (wpList P ops Q (⟨some d, .call { callee := .value g, args := xs, argTypes := ats }, ty, pos, after, none⟩ :: rest)) :=
  k_callv (R := fun w e w' => e = .returned v ∧ Below w.heap.size w w') hc hd hg hx (fun w hw => by rw [hfull]; exact hC w hw) fun _ _ w' hw hR => ⟨v, hR.1, h w' (hw.ext hR.2)⟩
end ops

/-! The call's beginning and end. -/
theorem k_enter {f : FuncId} {fn : Func} {c : Code} {args : List Value} {R : Ending → World → Prop} (hf : P.funcs[f]? = some fn) (hb : fn.body = some c) (hN : fn.ntmps = N) (hl : Nat.ble args.length N = true)
    (h : K N (argEnv 0 args) w [] (Code.wp P c (bodyPost P fn R))) : Calls P f args.toArray w R := j_enter hf hb hN hl (h w (Sat.refl w))
/-- With a block that the call may write. -/
theorem k_enterO {f : FuncId} {fn : Func} {c : Code} {args : List Value} {R : Ending → World → Prop} {b : Nat} {cs : List Value} {t : TypeId} (hb' : Blk w b cs t) (hf : P.funcs[f]? = some fn) (hb : fn.body = some c) (hN : fn.ntmps = N) (hl : Nat.ble args.length N = true)
    (h : K N (argEnv 0 args) w [bk true b cs t] (Code.wp P c (bodyPost P fn R))) : Calls P f args.toArray w R := j_enter hf hb hN hl (h w ((Sat.refl w).open rfl hb'))
section ends
variable {fn : Func} {R : Ending → World → Prop} {v : Value}
theorem k_ret0 (hf : fn.results = #[]) (h : ∀ w, Sat r O w → R (.returned (.tuple #[])) w) : K N env r O (bodyPost P fn R .ret) := fun w hw => j_ret0 hf (h w hw)
theorem k_ret1 {t : Tmp} (hf : fn.results = #[.tmp t]) (hv : look env t = some v) (h : ∀ w, Sat r O w → R (.returned v) w) : K N env r O (bodyPost P fn R .ret) := fun w hw => j_ret1 hf hv (h w hw)
theorem k_ret2 {t u : Tmp} {v2 : Value} (hf : fn.results = #[.tmp t, .tmp u]) (hv : look env t = some v) (hv2 : look env u = some v2) (h : ∀ w, Sat r O w → R (.returned (.tuple #[v, v2])) w) : K N env r O (bodyPost P fn R .ret) := fun w hw => j_ret2 hf hv hv2 (h w hw)
theorem k_ret3 {t u s : Tmp} {v2 v3 : Value} (hf : fn.results = #[.tmp t, .tmp u, .tmp s]) (hv : look env t = some v) (hv2 : look env u = some v2) (hv3 : look env s = some v3) (h : ∀ w, Sat r O w → R (.returned (.tuple #[v, v2, v3])) w) : K N env r O (bodyPost P fn R .ret) := fun w hw => j_ret3 hf hv hv2 hv3 (h w hw)
theorem k_end (h : K N env r O (bodyPost P fn R .ret)) : K N env r O (bodyPost P fn R .normal) := fun w hw => j_end (h w hw)
end ends

/-! Regions that draw their order. -/
def KS (N : Nat) (env : Env) (r : World) (O : List Own) (F : World → Act → Prop) : Prop := ∀ w, Sat r O w → JS N env (F w)
theorem k_region_tail {id : Nat} {l : List Oper} (n : Nat) (hm : P.follows .mixedOrders = true) (hB : Region.lexTailB .any l.toArray n = true)
    (h : KS N env r O (fun w1 => wpStill P l.toArray w1 (fun a' => wpList P l.toArray Q (l.drop n) a' w1) (l.take n))) : K N env r O (Code.wp P (.region id l.toArray true) Q) :=
  fun _ hw => j_region_tail n hm hB fun w1 hb _ => h w1 (hw.ext hb)
theorem k_region_still {id : Nat} {l : List Oper} (hm : P.follows .mixedOrders = true) (hB : Region.lexB .any l.toArray = true)
    (h : KS N env r O (fun w1 => wpStill P l.toArray w1 (fun a' => Q .normal a' w1) l)) : K N env r O (Code.wp P (.region id l.toArray true) Q) :=
  fun _ hw => j_region_still hm hB fun w1 hb _ => h w1 (hw.ext hb)
theorem k_held {id : Nat} {l : List Oper} (n : Nat) (ord : List Nat) (hm : P.follows .mixedOrders = true) (hB : heldB l.toArray n ord = true)
    (h : K N env r O (wpHeld P l.toArray (Sat r O) (wpList P l.toArray Q (l.drop n)) (pickL l ord))) : K N env r O (Code.wp P (.region id l.toArray true) Q) :=
  fun _ hw => j_held n ord (Sat r O) hm hB fun w1 hb _ => ⟨hw.ext hb, h w1 (hw.ext hb)⟩
section still
variable {ops : Array Oper} {rest : List Oper} {d : Nat} {op : Op} {ty : TypeId} {pos : String} {after : Array Edge} {v : Value} {R : World → Act → Prop} {F : Act → World → Prop}
theorem ks_nil (h : KS N env r O R) : KS N env r O (fun w => wpStill P ops w (R w) []) := fun w hw => js_nil (h w hw)
theorem ks_end (h : K N env r O F) : KS N env r O (fun w a' => F a' w) := fun w hw => js_end (h w hw)
theorem ks_op (hd : Nat.blt d N = true) (hv : ∀ w, Sat r O w → OV P env op w v) (h : KS N ((d, v) :: env) r O (fun w => wpStill P ops w (R w) rest)) : KS N env r O (fun w => wpStill P ops w (R w) (⟨some d, op, ty, pos, after, none⟩ :: rest)) := fun w hw => js_op hd (hv w hw) (h w hw)
theorem ks_yes {j : Nat} {want : Bool} {oj : Oper} {dj : Nat} (hj : ops[j]? = some oj) (hdj : oj.dst = some dj) (hl : look env dj = some (.bool want)) (hd : Nat.blt d N = true) (hv : ∀ w, Sat r O w → OV P env op w v) (h : KS N ((d, v) :: env) r O (fun w => wpStill P ops w (R w) rest)) :
    KS N env r O (fun w => wpStill P ops w (R w) (⟨some d, op, ty, pos, after, some (j, want)⟩ :: rest)) := fun w hw => js_yes hj hdj hl hd (hv w hw) (h w hw)
theorem ks_no {j : Nat} {want b : Bool} {oj : Oper} {dj : Nat} (hj : ops[j]? = some oj) (hdj : oj.dst = some dj) (hl : look env dj = some (.bool b)) (hb : (b == want) = false) (hd : Nat.blt d N = true) (h : KS N ((d, undef) :: env) r O (fun w => wpStill P ops w (R w) rest)) :
    KS N env r O (fun w => wpStill P ops w (R w) (⟨some d, op, ty, pos, after, some (j, want)⟩ :: rest)) := fun w hw => js_no hj hdj hl hb hd (h w hw)
theorem ks_undef {j : Nat} {want : Bool} {oj : Oper} {dj : Nat} (hj : ops[j]? = some oj) (hdj : oj.dst = some dj) (hl : look env dj = some undef) (hd : Nat.blt d N = true) (h : KS N ((d, undef) :: env) r O (fun w => wpStill P ops w (R w) rest)) :
    KS N env r O (fun w => wpStill P ops w (R w) (⟨some d, op, ty, pos, after, some (j, want)⟩ :: rest)) := fun w hw => js_undef hj hdj hl hd (h w hw)
theorem ks_call {f : FuncId} {xs : Array Operand} {ats : Array TypeId} {args : List Value} (hc : callable P f = true) (hd : Nat.blt d N = true) (hx : evs env xs.toList = some args) (hC : ∀ w, Sat r O w → Calls P f args.toArray w fun e w' => e = .returned v ∧ w = w')
    (h : KS N ((d, v) :: env) r O (fun w => wpStill P ops w (R w) rest)) :
    KS N env r O (fun w => wpStill P ops w (R w) (⟨some d, .call { callee := .value (.func f), args := xs, argTypes := ats }, ty, pos, after, none⟩ :: rest)) := fun w hw => js_call hc hd hx (hC w hw) (h w hw)
theorem kh_nil {S : World → Prop} (h : K N env r O F) : K N env r O (wpHeld P ops S F []) := fun w hw => jh_nil (h w hw)
theorem kh_op {O0 : List Own} (hst : stillOp op = true) (hd : Nat.blt d N = true) (hv : ∀ w, Sat r O0 w → OV P env op w v) (h : K N ((d, v) :: env) r O (wpHeld P ops (Sat r O0) F rest)) : K N env r O (wpHeld P ops (Sat r O0) F (⟨some d, op, ty, pos, after, none⟩ :: rest)) := fun w hw => jh_op hst hd hv (h w hw)
theorem kh_yes {O0 : List Own} {j : Nat} {want : Bool} {oj : Oper} {dj : Nat} (hst : stillOp op = true) (hj : ops[j]? = some oj) (hdj : oj.dst = some dj) (hl : look env dj = some (.bool want)) (hd : Nat.blt d N = true) (hv : ∀ w, Sat r O0 w → OV P env op w v) (h : K N ((d, v) :: env) r O (wpHeld P ops (Sat r O0) F rest)) :
    K N env r O (wpHeld P ops (Sat r O0) F (⟨some d, op, ty, pos, after, some (j, want)⟩ :: rest)) := fun w hw => jh_yes hst hj hdj hl hd hv (h w hw)
theorem kh_no {O0 : List Own} {j : Nat} {want b : Bool} {oj : Oper} {dj : Nat} (hst : stillOp op = true) (hj : ops[j]? = some oj) (hdj : oj.dst = some dj) (hl : look env dj = some (.bool b)) (hb : (b == want) = false) (hd : Nat.blt d N = true) (h : K N ((d, undef) :: env) r O (wpHeld P ops (Sat r O0) F rest)) :
    K N env r O (wpHeld P ops (Sat r O0) F (⟨some d, op, ty, pos, after, some (j, want)⟩ :: rest)) := fun w hw => jh_no hst hj hdj hl hb hd (h w hw)
theorem kh_undef {O0 : List Own} {j : Nat} {want : Bool} {oj : Oper} {dj : Nat} (hst : stillOp op = true) (hj : ops[j]? = some oj) (hdj : oj.dst = some dj) (hl : look env dj = some undef) (hd : Nat.blt d N = true) (h : K N ((d, undef) :: env) r O (wpHeld P ops (Sat r O0) F rest)) :
    K N env r O (wpHeld P ops (Sat r O0) F (⟨some d, op, ty, pos, after, some (j, want)⟩ :: rest)) := fun w hw => jh_undef hst hj hdj hl hd (h w hw)
theorem kh_run {S : World → Prop} {o : Oper} (hst : stillOp o.op = false) (h : K N env r O (wpList P ops (OnlyN fun a' w' => S w' ∧ wpHeld P ops S F rest a' w') [o])) : K N env r O (wpHeld P ops S F (o :: rest)) := fun w hw => jh_run hst (h w hw)
theorem kh_back {O0 : List Own} (hS : SubO O0 O) (h : K N env r O (wpHeld P ops (Sat r O0) F rest)) : K N env r O (wpList P ops (OnlyN fun a' w' => Sat r O0 w' ∧ wpHeld P ops (Sat r O0) F rest a' w') []) := fun w hw => jh_back (hw.sub hS) (h w hw)
theorem kh_cyes {S : World → Prop} {j : Nat} {want : Bool} {oj : Oper} {dj : Nat} {dst : Option Tmp} (hst : stillOp op = false) (hj : ops[j]? = some oj) (hdj : oj.dst = some dj) (hl : look env dj = some (.bool want)) (h : K N env r O (wpHeld P ops S F (⟨dst, op, ty, pos, after, none⟩ :: rest))) :
    K N env r O (wpHeld P ops S F (⟨dst, op, ty, pos, after, some (j, want)⟩ :: rest)) := by
  intro w hw a ha
  have h' := h w hw a ha
  unfold wpHeld at h' ⊢
  simp only [hst, cond_false] at h' ⊢
  exact j_guard_yes hj hdj hl (fun a' ha' => by
    have h2 := h w hw a' ha'
    unfold wpHeld at h2
    simp only [hst, cond_false] at h2
    exact h2) a ha
theorem kh_cno {j : Nat} {want b : Bool} {oj : Oper} {dj : Nat} (hst : stillOp op = false) (hj : ops[j]? = some oj) (hdj : oj.dst = some dj) (hl : look env dj = some (.bool b)) (hb : (b == want) = false) (hd : Nat.blt d N = true) (h : K N ((d, undef) :: env) r O (wpHeld P ops (Sat r O) F rest)) :
    K N env r O (wpHeld P ops (Sat r O) F (⟨some d, op, ty, pos, after, some (j, want)⟩ :: rest)) := fun w hw => jh_run hst (j_guard_no hj hdj hl hb hd (jh_back hw (h w hw)))
theorem kh_cundef {j : Nat} {want : Bool} {oj : Oper} {dj : Nat} (hst : stillOp op = false) (hj : ops[j]? = some oj) (hdj : oj.dst = some dj) (hl : look env dj = some undef) (hd : Nat.blt d N = true) (h : K N ((d, undef) :: env) r O (wpHeld P ops (Sat r O) F rest)) :
    K N env r O (wpHeld P ops (Sat r O) F (⟨some d, op, ty, pos, after, some (j, want)⟩ :: rest)) := fun w hw => jh_run hst (j_guard_undef hj hdj hl hd (jh_back hw (h w hw)))
/-- A call that leaves all that is elder alone, beside loads. -/
theorem kh_callb {f : FuncId} {xs : Array Operand} {ats : Array TypeId} {args : List Value} (hc : callable P f = true) (hd : Nat.blt d N = true) (hx : evs env xs.toList = some args) (hC : ∀ w, Sat r O w → Calls P f args.toArray w fun e w' => e = .returned v ∧ Below w.heap.size w w')
    (h : K N ((d, v) :: env) r O (wpHeld P ops (Sat r O) F rest)) :
    K N env r O (wpHeld P ops (Sat r O) F (⟨some d, .call { callee := .value (.func f), args := xs, argTypes := ats }, ty, pos, after, none⟩ :: rest)) :=
  fun w hw => jh_run rfl (j_call hc hd hx (hC w hw) fun _ w' hR => ⟨v, hR.1, jh_back (hw.ext hR.2) (h w' (hw.ext hR.2))⟩)
theorem kh_calle {σ : Type} {val : σ → Value} {ok : σ → Prop} {f : FuncId} {xs : Array Operand} {ats : Array TypeId} {args : List Value} (hc : callable P f = true) (hd : Nat.blt d N = true) (hx : evs env xs.toList = some args) (hC : ∀ w, Sat r O w → Calls P f args.toArray w fun e w' => ∃ s, e = .returned (val s) ∧ ok s ∧ Below w.heap.size w w')
    (h : ∀ s, ok s → K N ((d, val s) :: env) r O (wpHeld P ops (Sat r O) F rest)) :
    K N env r O (wpHeld P ops (Sat r O) F (⟨some d, .call { callee := .value (.func f), args := xs, argTypes := ats }, ty, pos, after, none⟩ :: rest)) :=
  fun w hw => jh_run rfl (j_call hc hd hx (hC w hw) fun _ w' ⟨s, h1, h2, h3⟩ => ⟨val s, h1, jh_back (hw.ext h3) (h s h2 w' (hw.ext h3))⟩)
end still
end
end Go.Proofs.YtddiecdoaggaaaaGreatDoor
