/- An engine for walks: the frame is a list of the slots that are known; each operation by a law of its own; nothing is searched. No program. -/
import Derived.WalkKit
import Derived.WalkSpells
import Derived.WalkLawsBesides
import Derived.Lib.Hide
import Derived.Deep.LoopGhost
import Derived.Deep.Quiet
import Derived.StillTail
import Derived.StillTactics
namespace Go.Proofs.YtddiecdoaggaaaaGreatDoor
open Go.RowKit

abbrev Env := List (Nat × Value)
def look : Env → Nat → Option Value
  | [], _ => none
  | (k, v) :: l, t => bif Nat.beq k t then some v else look l t
def evx (env : Env) : Operand → Option Value
  | .tmp t => look env t
  | .const v => some v
  | .global g => some (.pointer (some ⟨g, 0, none⟩))
  | .func f => some (.func (.func f) #[] #[])
def evs (env : Env) : List Operand → Option (List Value)
  | [] => some []
  | x :: l => match evx env x, evs env l with
    | some v, some vs => some (v :: vs)
    | _, _ => none

structure St (N : Nat) (env : Env) (a : Act) : Prop where
  defers : a.defers = []
  size : a.tmps.size = N
  get : ∀ t v, look env t = some v → a.tmps.getD t undef = v

theorem St.ev {N : Nat} {env : Env} {a : Act} (h : St N env a) : ∀ {x : Operand} {v : Value}, evx env x = some v → a.eval x = v := by
  intro x v hx
  cases x with
  | tmp t => exact h.get t v hx
  | const c => simpa [evx, Act.eval] using hx
  | global g => simpa [evx, Act.eval] using hx
  | func f => simpa [evx, Act.eval] using hx

theorem look_cons (k : Nat) (v : Value) (l : Env) (t : Nat) : look ((k, v) :: l) t = bif Nat.beq k t then some v else look l t := rfl

theorem St.put {N d : Nat} {env : Env} {a : Act} (h : St N env a) (hd : Nat.blt d N = true) (v : Value) : St N ((d, v) :: env) (a.put (some d) v) := by
  have hd' : d < a.tmps.size := by rw [h.size]; exact Nat.blt_eq ▸ hd
  refine ⟨h.defers, by simp [Act.put, h.size], fun t u ht => ?_⟩
  rw [look_cons] at ht
  by_cases hk : Nat.beq d t = true
  · rw [hk] at ht
    have e : d = t := Nat.eq_of_beq_eq_true hk
    subst e
    simp only [cond_true, Option.some.injEq] at ht
    subst ht
    simp [Act.put, Array.getD, hd']
  · have hk' : Nat.beq d t = false := Bool.eq_false_iff.2 hk
    rw [hk'] at ht
    simp only [cond_false] at ht
    have hne : d ≠ t := fun e => hk (by rw [e]; exact Nat.beq_refl t)
    have := h.get t u ht
    simp only [Act.put]
    rw [← this]
    simp only [Array.getD]
    by_cases htt : t < a.tmps.size
    · simp [htt, hne]
    · simp [htt]

/-- Every slot that l names is known so in env. -/
def Sub (l env : Env) : Prop := ∀ t v, look l t = some v → look env t = some v
theorem Sub.nil {env : Env} : Sub [] env := fun _ _ h => by cases h
theorem Sub.cons {l env : Env} {t : Nat} {v : Value} (h : look env t = some v) (hs : Sub l env) : Sub ((t, v) :: l) env := by
  intro t' v' h'
  rw [look_cons] at h'
  by_cases hk : Nat.beq t t' = true
  · rw [hk] at h'
    have e : t = t' := Nat.eq_of_beq_eq_true hk
    subst e
    simp only [cond_true, Option.some.injEq] at h'
    subst h'; exact h
  · have hk' : Nat.beq t t' = false := Bool.eq_false_iff.2 hk
    rw [hk'] at h'
    exact hs t' v' h'
theorem St.sub {N : Nat} {l env : Env} {a : Act} (h : St N env a) (hs : Sub l env) : St N l a := ⟨h.defers, h.size, fun t v ht => h.get t v (hs t v ht)⟩

/-- F holds of every frame in which the slots are as env says. -/
def J (N : Nat) (env : Env) (w : World) (F : Act → World → Prop) : Prop := ∀ a, St N env a → F a w

section
variable {P : Program} {N : Nat} {env : Env} {w : World} {Q : Exit → Act → World → Prop} {K : Act → World → Prop}

theorem j_sub {F : Act → World → Prop} (l : Env) (hs : Sub l env) (h : J N l w F) : J N env w F := fun a ha => h a (ha.sub hs)
theorem j_seq {x y : Code} (h : J N env w (Code.wp P x (Exit.then (Code.wp P y Q) Q))) : J N env w (Code.wp P (.seq x y) Q) := fun a ha => wp_seq (h a ha)
theorem j_skip (h : J N env w (Q .normal)) : J N env w (Code.wp P .skip Q) := fun a ha => wp_skip (h a ha)
theorem j_ret (h : J N env w (Q .ret)) : J N env w (Code.wp P .ret Q) := fun a ha => wp_ret (h a ha)
theorem j_exit {id : Nat} (h : J N env w (Q (.exit id))) : J N env w (Code.wp P (.exit id) Q) := fun a ha => wp_exit (h a ha)
theorem j_block {id : Nat} {c : Code} (h : J N env w (Code.wp P c (Exit.inBlock id Q))) : J N env w (Code.wp P (.block id c) Q) := fun a ha => wp_block (h a ha)
theorem j_region {id : Nat} {l : List Oper} (h : J N env w (wpList P l.toArray Q l)) : J N env w (Code.wp P (.region id l.toArray false) Q) := fun a ha => wp_region_lit (h a ha)
theorem j_nil {ops : Array Oper} (h : J N env w (Q .normal)) : J N env w (wpList P ops Q []) := fun a ha => h a ha
theorem j_then (h : J N env w K) : J N env w (Exit.then K Q .normal) := h
theorem j_then_exit {id : Nat} (h : J N env w (Q (.exit id))) : J N env w (Exit.then K Q (.exit id)) := h
theorem j_then_ret (h : J N env w (Q .ret)) : J N env w (Exit.then K Q .ret) := h
theorem j_in {id : Nat} (h : J N env w (Q .normal)) : J N env w (Exit.inBlock id Q .normal) := h
theorem j_in_ret {id : Nat} (h : J N env w (Q .ret)) : J N env w (Exit.inBlock id Q .ret) := h
theorem j_in_here {id i : Nat} (e : Nat.beq i id = true) (h : J N env w (Q .normal)) : J N env w (Exit.inBlock id Q (.exit i)) := by
  obtain rfl : i = id := Nat.eq_of_beq_eq_true e
  intro a ha; show (if i = i then _ else _); rw [if_pos rfl]; exact h a ha
theorem j_in_on {id i : Nat} (e : Nat.beq i id = false) (h : J N env w (Q (.exit i))) : J N env w (Exit.inBlock id Q (.exit i)) := by
  have hne : i ≠ id := fun h => by rw [h, Nat.beq_refl] at e; cases e
  intro a ha; show (if i = id then _ else _); rw [if_neg hne]; exact h a ha
theorem j_cond_t {c : Operand} {x y : Code} (hc : evx env c = some (.bool true)) (h : J N env w (Code.wp P x Q)) : J N env w (Code.wp P (.cond c x y) Q) := fun a ha => wp_cond_true (ha.ev hc) (h a ha)
theorem j_cond_f {c : Operand} {x y : Code} (hc : evx env c = some (.bool false)) (h : J N env w (Code.wp P y Q)) : J N env w (Code.wp P (.cond c x y) Q) := fun a ha => wp_cond_false (ha.ev hc) (h a ha)
theorem j_cond {c : Operand} {x y : Code} {b : Bool} (hc : evx env c = some (.bool b)) (ht : b = true → J N env w (Code.wp P x Q)) (hf : b = false → J N env w (Code.wp P y Q)) : J N env w (Code.wp P (.cond c x y) Q) :=
  fun a ha => wp_cond_split (ha.ev hc) (fun e => ht e a ha) (fun e => hf e a ha)

/-- A cut: what the first piece leaves, for a ghost s. -/
def Left {σ : Type} (N : Nat) (envOf : σ → Env) (ok : σ → World → Prop) : Act → World → Prop := fun a' w' => ∃ s, St N (envOf s) a' ∧ ok s w'
theorem j_left {σ : Type} {envOf : σ → Env} {ok : σ → World → Prop} (s : σ) (hs : Sub (envOf s) env) (hok : ok s w) : J N env w (Left N envOf ok) := fun _ ha => ⟨s, ha.sub hs, hok⟩
theorem j_seq_cut {σ : Type} (envOf : σ → Env) (ok : σ → World → Prop) {x y : Code} (hx : J N env w (Code.wp P x (Exit.then (Left N envOf ok) Q))) (hy : ∀ s w', ok s w' → J N (envOf s) w' (Code.wp P y Q)) : J N env w (Code.wp P (.seq x y) Q) := by
  intro a ha
  refine wp_seq (wp_mono (hx a ha) ?_)
  intro e a' w' hq
  cases e with
  | normal => obtain ⟨s, hs, hok⟩ := hq; exact hy s w' hok a' hs
  | _ => exact hq

/-- What a round leaves. -/
def Round {σ : Type} (N : Nat) (envOf : σ → Env) (ok : σ → World → Prop) (μ : σ → Nat) (s : σ) : Act → World → Prop := fun a' w' => ∃ s', St N (envOf s') a' ∧ ok s' w' ∧ μ s' < μ s
theorem j_round {σ : Type} {envOf : σ → Env} {ok : σ → World → Prop} {μ : σ → Nat} {s : σ} (s' : σ) (hs : Sub (envOf s') env) (hok : ok s' w) (hm : μ s' < μ s) : J N env w (Round N envOf ok μ s) := fun _ ha => ⟨s', ha.sub hs, hok, hm⟩
theorem j_loop {σ : Type} (envOf : σ → Env) (ok : σ → World → Prop) (μ : σ → Nat) (s₀ : σ) {c : Code} (hs : Sub (envOf s₀) env) (h0 : ok s₀ w)
    (round : ∀ s w', ok s w' → J N (envOf s) w' (Code.wp P c (Exit.then (Round N envOf ok μ s) Q))) : J N env w (Code.wp P (.loop c) Q) := by
  intro a ha
  refine wp_loop_ghost (fun n a w => ∃ s, St N (envOf s) a ∧ ok s w ∧ μ s = n) (μ s₀) ⟨s₀, ha.sub hs, h0, rfl⟩ ?_
  rintro n a w ⟨s, hst, hok, rfl⟩
  refine wp_mono (round s w hok a hst) ?_
  intro e a' w' hq
  cases e with
  | normal => obtain ⟨s', h1, h2, h3⟩ := hq; exact ⟨μ s', h3, s', h1, h2, rfl⟩
  | _ => exact hq

/-- The value of an operation that leaves the world alone. -/
def OV (P : Program) (env : Env) (op : Op) (w : World) (v : Value) : Prop :=
  ∀ ρ : Operand → Value, (∀ {x : Operand} {u : Value}, evx env x = some u → ρ x = u) → ∀ o : Oper, o.op = op → (execOp ρ o).run P w = .ok (.value v) w

section ops
variable {ops : Array Oper} {rest : List Oper} {d : Nat} {op : Op} {ty : TypeId} {pos : String} {after : Array Edge} {v : Value}

theorem j_op (hd : Nat.blt d N = true) (hv : OV P env op w v) (h : J N ((d, v) :: env) w (wpList P ops Q rest)) : J N env w (wpList P ops Q (⟨some d, op, ty, pos, after, none⟩ :: rest)) := by
  intro a ha
  refine wpList_plain rfl (fun K hK => ?_)
  unfold Oper.wp
  rw [hv a.eval (fun h => ha.ev h) _ rfl]
  exact hK _ _ (h _ (ha.put hd v))

theorem wanted_of {j : Nat} {want b : Bool} {oj : Oper} {dj : Nat} {a : Act} {o : Oper} (hg : o.guard = some (j, want)) (hj : ops[j]? = some oj) (hdj : oj.dst = some dj) (ha : St N env a) (hl : look env dj = some (.bool b)) : Region.wanted o (yielded ops a.tmps) = (b == want) := by
  have h1 := ha.get dj _ hl
  have h2 : a.tmps[dj]? = some (.bool b) := by
    rw [Array.getD_eq_getD_getElem?] at h1
    cases hh : a.tmps[dj]? with
    | none => rw [hh] at h1; cases h1
    | some x => rw [hh] at h1; exact congrArg some h1
  simp [Region.wanted, hg, yielded, hj, hdj, h2]

theorem j_guard_yes {j : Nat} {want : Bool} {oj : Oper} {dj : Nat} {dst : Option Tmp} (hj : ops[j]? = some oj) (hdj : oj.dst = some dj) (hl : look env dj = some (.bool want)) (h : J N env w (wpList P ops Q (⟨dst, op, ty, pos, after, none⟩ :: rest))) :
    J N env w (wpList P ops Q (⟨dst, op, ty, pos, after, some (j, want)⟩ :: rest)) := by
  intro a ha
  have h' := h a ha
  unfold wpList at h' ⊢
  have e : Region.wanted ⟨dst, op, ty, pos, after, some (j, want)⟩ (yielded ops a.tmps) = true := by rw [wanted_of rfl hj hdj ha hl]; simp
  rw [if_pos e]
  rw [if_pos (by simp [Region.wanted])] at h'
  exact h'
theorem j_guard_no {j : Nat} {want b : Bool} {oj : Oper} {dj : Nat} (hj : ops[j]? = some oj) (hdj : oj.dst = some dj) (hl : look env dj = some (.bool b)) (hb : (b == want) = false) (hd : Nat.blt d N = true) (h : J N ((d, undef) :: env) w (wpList P ops Q rest)) :
    J N env w (wpList P ops Q (⟨some d, op, ty, pos, after, some (j, want)⟩ :: rest)) := by
  intro a ha
  exact wpList_skip (by rw [wanted_of rfl hj hdj ha hl, hb]) (h _ (ha.put hd undef))
theorem j_guard_no0 {j : Nat} {want b : Bool} {oj : Oper} {dj : Nat} (hj : ops[j]? = some oj) (hdj : oj.dst = some dj) (hl : look env dj = some (.bool b)) (hb : (b == want) = false) (h : J N env w (wpList P ops Q rest)) :
    J N env w (wpList P ops Q (⟨none, op, ty, pos, after, some (j, want)⟩ :: rest)) := by
  intro a ha
  exact wpList_skip (by rw [wanted_of rfl hj hdj ha hl, hb]) (h a ha)
theorem wanted_undef {j : Nat} {want : Bool} {oj : Oper} {dj : Nat} {a : Act} {o : Oper} (hg : o.guard = some (j, want)) (hj : ops[j]? = some oj) (hdj : oj.dst = some dj) (ha : St N env a) (hl : look env dj = some undef) : Region.wanted o (yielded ops a.tmps) = false := by
  have h1 := ha.get dj _ hl
  rw [Array.getD_eq_getD_getElem?] at h1
  have h2 : a.tmps[dj]? = none ∨ a.tmps[dj]? = some undef := by
    cases hh : a.tmps[dj]? with
    | none => exact Or.inl rfl
    | some x => rw [hh] at h1; exact Or.inr (congrArg some h1)
  rcases h2 with h2 | h2 <;> simp [Region.wanted, hg, yielded, hj, hdj, h2, undef]
theorem j_guard_undef {j : Nat} {want : Bool} {oj : Oper} {dj : Nat} (hj : ops[j]? = some oj) (hdj : oj.dst = some dj) (hl : look env dj = some undef) (hd : Nat.blt d N = true) (h : J N ((d, undef) :: env) w (wpList P ops Q rest)) :
    J N env w (wpList P ops Q (⟨some d, op, ty, pos, after, some (j, want)⟩ :: rest)) := by
  intro a ha
  exact wpList_skip (wanted_undef rfl hj hdj ha hl) (h _ (ha.put hd undef))
/-- An undecided guard: both cases; the guarding slot is written out. -/
theorem j_guard {j : Nat} {want b : Bool} {oj : Oper} {dj : Nat} {dst : Option Tmp} (_hj : ops[j]? = some oj) (_hdj : oj.dst = some dj) (hl : look env dj = some (.bool b)) (_hn : Nat.blt dj N = true)
    (hy : b = true → J N ((dj, .bool true) :: env) w (wpList P ops Q (⟨dst, op, ty, pos, after, some (j, want)⟩ :: rest))) (hf : b = false → J N ((dj, .bool false) :: env) w (wpList P ops Q (⟨dst, op, ty, pos, after, some (j, want)⟩ :: rest))) :
    J N env w (wpList P ops Q (⟨dst, op, ty, pos, after, some (j, want)⟩ :: rest)) := by
  intro a ha
  have key : ∀ c : Bool, b = c → St N ((dj, .bool c) :: env) a := by
    intro c hc
    refine ⟨ha.defers, ha.size, fun t u ht => ?_⟩
    rw [look_cons] at ht
    by_cases hk : Nat.beq dj t = true
    · rw [hk] at ht
      have e : dj = t := Nat.eq_of_beq_eq_true hk
      subst e
      simp only [cond_true, Option.some.injEq] at ht
      subst ht; subst hc; exact ha.get _ _ hl
    · have hk' : Nat.beq dj t = false := Bool.eq_false_iff.2 hk
      rw [hk'] at ht
      exact ha.get t u ht
  cases b with
  | true => exact hy rfl a (key true rfl)
  | false => exact hf rfl a (key false rfl)
end ops
end

/-- The facts on types that the laws ask. -/
class TSize (P : Program) (t : TypeId) (n : outParam Nat) : Prop where
  run : ∀ w, (Go.sizeOf t).run P w = .ok n w
class TAgg (P : Program) (t : TypeId) (b : outParam Bool) : Prop where
  run : ∀ w, (isAgg t).run P w = .ok b w
class TZero (P : Program) (t : TypeId) (z : outParam Value) : Prop where
  run : ∀ w, (zeroValue t).run P w = .ok z w
class TElem (P : Program) (t : TypeId) (e : outParam TypeId) : Prop where
  eq : P.underlying t = some (.slice e)
class TMap (P : Program) (t : TypeId) (k e : outParam TypeId) : Prop where
  eq : P.underlying t = some (.map k e)
class TStr (P : Program) (t : TypeId) : Prop where
  eq : P.underlying t = some .string
class TField (P : Program) (t : TypeId) (f : Nat) (off : outParam Nat) : Prop where
  run : ∀ b o w, (Instr.fieldAt t (.pointer (some ⟨b, o, none⟩)) f).run P w = .ok (.pointer (some ⟨b, o + off, none⟩)) w

class TInfo (P : Program) (t : TypeId) (z : outParam Value) (size bytes : outParam Nat) : Prop where
  eq : (P.info? t).map (fun i => (i.zero, i.size, i.bytes)) = some (some z, size, bytes)

end Go.Proofs.YtddiecdoaggaaaaGreatDoor
