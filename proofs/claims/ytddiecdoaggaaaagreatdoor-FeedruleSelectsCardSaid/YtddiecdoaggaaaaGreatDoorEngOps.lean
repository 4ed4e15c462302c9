/- The engine's laws of the operations. No program. -/
import Derived.Test.YtddiecdoaggaaaaGreatDoorEng
namespace Go.Proofs.YtddiecdoaggaaaaGreatDoor
open Go.RowKit

/-- An operation that hands back a value and leaves another world. -/
def EV (P : Program) (env : Env) (op : Op) (w : World) (v : Value) (w' : World) : Prop :=
  ∀ ρ : Operand → Value, (∀ {x : Operand} {u : Value}, evx env x = some u → ρ x = u) → ∀ o : Oper, o.op = op → (execOp ρ o).run P w = .ok (.value v) w'
def EU (P : Program) (env : Env) (op : Op) (w : World) (w' : World) : Prop :=
  ∀ ρ : Operand → Value, (∀ {x : Operand} {u : Value}, evx env x = some u → ρ x = u) → ∀ o : Oper, o.op = op → (execOp ρ o).run P w = .ok .skip w'

section
variable {P : Program} {N : Nat} {env : Env} {w w' : World} {Q : Exit → Act → World → Prop} {ops : Array Oper} {rest : List Oper} {d : Nat} {op : Op} {ty : TypeId} {pos : String} {after : Array Edge} {v : Value}
theorem j_ev (hd : Nat.blt d N = true) (hv : EV P env op w v w') (h : J N ((d, v) :: env) w' (wpList P ops Q rest)) : J N env w (wpList P ops Q (⟨some d, op, ty, pos, after, none⟩ :: rest)) := by
  intro a ha
  refine wpList_plain rfl (fun K hK => ?_)
  unfold Oper.wp
  rw [hv a.eval (fun h => ha.ev h) _ rfl]
  exact hK _ _ (h _ (ha.put hd v))
theorem j_eu (hv : EU P env op w w') (h : J N env w' (wpList P ops Q rest)) : J N env w (wpList P ops Q (⟨none, op, ty, pos, after, none⟩ :: rest)) := by
  intro a ha
  refine wpList_plain rfl (fun K hK => ?_)
  unfold Oper.wp
  rw [hv a.eval (fun h => ha.ev h) _ rfl]
  exact hK _ _ (h _ ha)
theorem j_ev0 (hv : EV P env op w v w') (h : J N env w' (wpList P ops Q rest)) : J N env w (wpList P ops Q (⟨none, op, ty, pos, after, none⟩ :: rest)) := by
  intro a ha
  refine wpList_plain rfl (fun K hK => ?_)
  unfold Oper.wp
  rw [hv a.eval (fun h => ha.ev h) _ rfl]
  exact hK _ _ (h _ ha)

/-! Operations that only compute. -/
theorem ov_move {x : Operand} (hx : evx env x = some v) : OV P env (.move x) w v := by
  intro ρ hρ o ho; unfold execOp; rw [ho]; simp [hρ hx]
theorem ov_assign {x : Operand} (hx : evx env x = some v) : OV P env (.assign x) w v := by
  intro ρ hρ o ho; unfold execOp; rw [ho]; simp [hρ hx]
theorem ov_pick_t {c a b : Operand} (hc : evx env c = some (.bool true)) (ha : evx env a = some v) : OV P env (.pick c a b) w v := by
  intro ρ hρ o ho; unfold execOp; rw [ho]; simp [hρ hc, hρ ha, asBool]
theorem ov_pick_f {c a b : Operand} (hc : evx env c = some (.bool false)) (hb : evx env b = some v) : OV P env (.pick c a b) w v := by
  intro ρ hρ o ho; unfold execOp; rw [ho]; simp [hρ hc, hρ hb, asBool]
theorem ov_not {x : Operand} {t : TypeId} {b : Bool} (hx : evx env x = some (.bool b)) : OV P env (.unOp .not t x) w (.bool !b) := by
  intro ρ hρ o ho; unfold execOp; rw [ho]; simp [hρ hx, Op.unary]

section bin
variable {x y : Operand} {t t' : TypeId} {k : IntKind} {a b : Int}
theorem ov_lss (hx : evx env x = some (.int k a)) (hy : evx env y = some (.int k b)) : OV P env (.binOp .lss t x y t') w (.bool (decide (a < b))) := by
  intro ρ hρ o ho; unfold execOp; rw [ho]; simp [hρ hx, hρ hy, go_sem]
theorem ov_leq (hx : evx env x = some (.int k a)) (hy : evx env y = some (.int k b)) : OV P env (.binOp .leq t x y t') w (.bool (decide (a ≤ b))) := by
  intro ρ hρ o ho; unfold execOp; rw [ho]; simp [hρ hx, hρ hy, go_sem]
theorem ov_gtr (hx : evx env x = some (.int k a)) (hy : evx env y = some (.int k b)) : OV P env (.binOp .gtr t x y t') w (.bool (decide (b < a))) := by
  intro ρ hρ o ho; unfold execOp; rw [ho]; simp [hρ hx, hρ hy, go_sem]
theorem ov_geq (hx : evx env x = some (.int k a)) (hy : evx env y = some (.int k b)) : OV P env (.binOp .geq t x y t') w (.bool (decide (b ≤ a))) := by
  intro ρ hρ o ho; unfold execOp; rw [ho]; simp [hρ hx, hρ hy, go_sem]
theorem ov_eql (hx : evx env x = some (.int k a)) (hy : evx env y = some (.int k b)) : OV P env (.binOp .eql t x y t') w (.bool (decide (a = b))) := by
  intro ρ hρ o ho; unfold execOp; rw [ho]; simp [hρ hx, hρ hy, go_sem]; rfl
theorem ov_neq (hx : evx env x = some (.int k a)) (hy : evx env y = some (.int k b)) : OV P env (.binOp .neq t x y t') w (.bool (!decide (a = b))) := by
  intro ρ hρ o ho; unfold execOp; rw [ho]; simp [hρ hx, hρ hy, go_sem]; rfl
theorem ov_add (hx : evx env x = some (.int .i64 a)) (hy : evx env y = some (.int .i64 b)) (h : -9223372036854775808 ≤ a + b ∧ a + b ≤ 9223372036854775807) : OV P env (.binOp .add t x y t') w (.int .i64 (a + b)) := by
  intro ρ hρ o ho; unfold execOp; rw [ho]; simp [hρ hx, hρ hy, go_sem, Op.intArith, IntWalk.i64_in _ h]
theorem ov_sub (hx : evx env x = some (.int .i64 a)) (hy : evx env y = some (.int .i64 b)) (h : -9223372036854775808 ≤ a - b ∧ a - b ≤ 9223372036854775807) : OV P env (.binOp .sub t x y t') w (.int .i64 (a - b)) := by
  intro ρ hρ o ho; unfold execOp; rw [ho]; simp [hρ hx, hρ hy, go_sem, Op.intArith, IntWalk.i64_in _ h]
theorem ov_mul (hx : evx env x = some (.int .i64 a)) (hy : evx env y = some (.int .i64 b)) (h : -9223372036854775808 ≤ a * b ∧ a * b ≤ 9223372036854775807) : OV P env (.binOp .mul t x y t') w (.int .i64 (a * b)) := by
  intro ρ hρ o ho; unfold execOp; rw [ho]; simp [hρ hx, hρ hy, go_sem, Op.intArith, IntWalk.i64_in _ h]
theorem ov_addw (hx : evx env x = some (.int k a)) (hy : evx env y = some (.int k b)) : OV P env (.binOp .add t x y t') w (.int k (k.wrap (a + b))) := by
  intro ρ hρ o ho; unfold execOp; rw [ho]; simp [hρ hx, hρ hy, go_sem, Op.intArith]
theorem ov_subw (hx : evx env x = some (.int k a)) (hy : evx env y = some (.int k b)) : OV P env (.binOp .sub t x y t') w (.int k (k.wrap (a - b))) := by
  intro ρ hρ o ho; unfold execOp; rw [ho]; simp [hρ hx, hρ hy, go_sem, Op.intArith]
theorem ov_mulw (hx : evx env x = some (.int k a)) (hy : evx env y = some (.int k b)) : OV P env (.binOp .mul t x y t') w (.int k (k.wrap (a * b))) := by
  intro ρ hρ o ho; unfold execOp; rw [ho]; simp [hρ hx, hρ hy, go_sem, Op.intArith]
theorem ov_quow (hx : evx env x = some (.int k a)) (hy : evx env y = some (.int k b)) (h : b ≠ 0) : OV P env (.binOp .quo t x y t') w (.int k (k.wrap (a.tdiv b))) := by
  intro ρ hρ o ho; unfold execOp; rw [ho]; simp [hρ hx, hρ hy, go_sem, Op.intDiv, h]
theorem ov_remw (hx : evx env x = some (.int k a)) (hy : evx env y = some (.int k b)) (h : b ≠ 0) : OV P env (.binOp .rem t x y t') w (.int k (a.tmod b)) := by
  intro ρ hρ o ho; unfold execOp; rw [ho]; simp [hρ hx, hρ hy, go_sem, Op.intDiv, h]

theorem ov_lss_t (hx : evx env x = some (.int k a)) (hy : evx env y = some (.int k b)) (h : a < b) : OV P env (.binOp .lss t x y t') w (.bool true) := by
  have := ov_lss (P := P) (w := w) (t := t) (t' := t') hx hy; rw [decide_eq_true h] at this; exact this
theorem ov_lss_f (hx : evx env x = some (.int k a)) (hy : evx env y = some (.int k b)) (h : ¬ a < b) : OV P env (.binOp .lss t x y t') w (.bool false) := by
  have := ov_lss (P := P) (w := w) (t := t) (t' := t') hx hy; rw [decide_eq_false h] at this; exact this
theorem ov_leq_t (hx : evx env x = some (.int k a)) (hy : evx env y = some (.int k b)) (h : a ≤ b) : OV P env (.binOp .leq t x y t') w (.bool true) := by
  have := ov_leq (P := P) (w := w) (t := t) (t' := t') hx hy; rw [decide_eq_true h] at this; exact this
theorem ov_leq_f (hx : evx env x = some (.int k a)) (hy : evx env y = some (.int k b)) (h : ¬ a ≤ b) : OV P env (.binOp .leq t x y t') w (.bool false) := by
  have := ov_leq (P := P) (w := w) (t := t) (t' := t') hx hy; rw [decide_eq_false h] at this; exact this
theorem ov_gtr_t (hx : evx env x = some (.int k a)) (hy : evx env y = some (.int k b)) (h : b < a) : OV P env (.binOp .gtr t x y t') w (.bool true) := by
  have := ov_gtr (P := P) (w := w) (t := t) (t' := t') hx hy; rw [decide_eq_true h] at this; exact this
theorem ov_gtr_f (hx : evx env x = some (.int k a)) (hy : evx env y = some (.int k b)) (h : ¬ b < a) : OV P env (.binOp .gtr t x y t') w (.bool false) := by
  have := ov_gtr (P := P) (w := w) (t := t) (t' := t') hx hy; rw [decide_eq_false h] at this; exact this
theorem ov_geq_t (hx : evx env x = some (.int k a)) (hy : evx env y = some (.int k b)) (h : b ≤ a) : OV P env (.binOp .geq t x y t') w (.bool true) := by
  have := ov_geq (P := P) (w := w) (t := t) (t' := t') hx hy; rw [decide_eq_true h] at this; exact this
theorem ov_geq_f (hx : evx env x = some (.int k a)) (hy : evx env y = some (.int k b)) (h : ¬ b ≤ a) : OV P env (.binOp .geq t x y t') w (.bool false) := by
  have := ov_geq (P := P) (w := w) (t := t) (t' := t') hx hy; rw [decide_eq_false h] at this; exact this
theorem ov_eql_t (hx : evx env x = some (.int k a)) (hy : evx env y = some (.int k b)) (h : a = b) : OV P env (.binOp .eql t x y t') w (.bool true) := by
  have := ov_eql (P := P) (w := w) (t := t) (t' := t') hx hy; rw [decide_eq_true h] at this; exact this
theorem ov_eql_f (hx : evx env x = some (.int k a)) (hy : evx env y = some (.int k b)) (h : ¬ a = b) : OV P env (.binOp .eql t x y t') w (.bool false) := by
  have := ov_eql (P := P) (w := w) (t := t) (t' := t') hx hy; rw [decide_eq_false h] at this; exact this
theorem ov_neq_t (hx : evx env x = some (.int k a)) (hy : evx env y = some (.int k b)) (h : ¬ a = b) : OV P env (.binOp .neq t x y t') w (.bool true) := by
  have := ov_neq (P := P) (w := w) (t := t) (t' := t') hx hy; rw [decide_eq_false h] at this; exact this
theorem ov_neq_f (hx : evx env x = some (.int k a)) (hy : evx env y = some (.int k b)) (h : a = b) : OV P env (.binOp .neq t x y t') w (.bool false) := by
  have := ov_neq (P := P) (w := w) (t := t) (t' := t') hx hy; rw [decide_eq_true h] at this; exact this
theorem ov_add1 {m : Nat} (hx : evx env x = some (.int .i64 ((m : Nat) : Int))) (hy : evx env y = some (.int .i64 1)) (h : m < 9223372036854775807) : OV P env (.binOp .add t x y t') w (.int .i64 ((m + 1 : Nat) : Int)) := by
  have := ov_add (P := P) (w := w) (t := t) (t' := t') hx hy (by constructor <;> omega)
  rw [show ((m : Int) + 1) = ((m + 1 : Nat) : Int) by omega] at this; exact this
theorem ov_add2 {m : Nat} (hx : evx env x = some (.int .i64 ((m : Nat) : Int))) (hy : evx env y = some (.int .i64 2)) (h : m < 9223372036854775806) : OV P env (.binOp .add t x y t') w (.int .i64 ((m + 2 : Nat) : Int)) := by
  have := ov_add (P := P) (w := w) (t := t) (t' := t') hx hy (by constructor <;> omega)
  rw [show ((m : Int) + 2) = ((m + 2 : Nat) : Int) by omega] at this; exact this
theorem ov_addN {m n : Nat} (hx : evx env x = some (.int .i64 ((m : Nat) : Int))) (hy : evx env y = some (.int .i64 ((n : Nat) : Int))) (h : m + n ≤ 9223372036854775807) : OV P env (.binOp .add t x y t') w (.int .i64 ((m + n : Nat) : Int)) := by
  have := ov_add (P := P) (w := w) (t := t) (t' := t') hx hy (by constructor <;> omega)
  rw [show ((m : Int) + n) = ((m + n : Nat) : Int) by omega] at this; exact this
theorem ov_sub1 {m : Nat} (hx : evx env x = some (.int .i64 ((m : Nat) : Int))) (hy : evx env y = some (.int .i64 1)) (h : 1 ≤ m) (h2 : m ≤ 9223372036854775807) : OV P env (.binOp .sub t x y t') w (.int .i64 ((m - 1 : Nat) : Int)) := by
  have := ov_sub (P := P) (w := w) (t := t) (t' := t') hx hy (by constructor <;> omega)
  rw [show ((m : Int) - 1) = ((m - 1 : Nat) : Int) by omega] at this; exact this

variable {s r : ByteArray}
theorem toList_beq (s r : ByteArray) : (s.toList == r.toList) = decide (s = r) := by
  rw [ByteArray.toList_eq, ByteArray.toList_eq]
  by_cases h : s = r
  · subst h; simp
  · have : s.data ≠ r.data := fun e => h (by
      cases s with | mk s => cases r with | mk r => simp at e; exact congrArg _ e)
    simp [h, this]
theorem ov_seql (hx : evx env x = some (.string s)) (hy : evx env y = some (.string r)) : OV P env (.binOp .eql t x y t') w (.bool (decide (s = r))) := by
  intro ρ hρ o ho; unfold execOp; rw [ho]; rw [← toList_beq]; simp [hρ hx, hρ hy, go_sem, binOp, Op.stringOp]
theorem ov_sneq (hx : evx env x = some (.string s)) (hy : evx env y = some (.string r)) : OV P env (.binOp .neq t x y t') w (.bool (!decide (s = r))) := by
  intro ρ hρ o ho; unfold execOp; rw [ho]; rw [← toList_beq]; simp [hρ hx, hρ hy, go_sem, binOp, Op.stringOp]
theorem ov_seql_t (hx : evx env x = some (.string s)) (hy : evx env y = some (.string r)) (h : s = r) : OV P env (.binOp .eql t x y t') w (.bool true) := by
  have := ov_seql (P := P) (w := w) (t := t) (t' := t') hx hy; rw [decide_eq_true h] at this; exact this
theorem ov_seql_f (hx : evx env x = some (.string s)) (hy : evx env y = some (.string r)) (h : ¬ s = r) : OV P env (.binOp .eql t x y t') w (.bool false) := by
  have := ov_seql (P := P) (w := w) (t := t) (t' := t') hx hy; rw [decide_eq_false h] at this; exact this
theorem ov_sneq_t (hx : evx env x = some (.string s)) (hy : evx env y = some (.string r)) (h : ¬ s = r) : OV P env (.binOp .neq t x y t') w (.bool true) := by
  have := ov_sneq (P := P) (w := w) (t := t) (t' := t') hx hy; rw [decide_eq_false h] at this; exact this
theorem ov_sneq_f (hx : evx env x = some (.string s)) (hy : evx env y = some (.string r)) (h : s = r) : OV P env (.binOp .neq t x y t') w (.bool false) := by
  have := ov_sneq (P := P) (w := w) (t := t) (t' := t') hx hy; rw [decide_eq_true h] at this; exact this
theorem ov_slss (hx : evx env x = some (.string s)) (hy : evx env y = some (.string r)) : OV P env (.binOp .lss t x y t') w (.bool (Op.bytesLess s.toList r.toList)) := by
  intro ρ hρ o ho; unfold execOp; rw [ho]; simp [hρ hx, hρ hy, go_sem, binOp, Op.stringOp]
theorem ov_sadd (hx : evx env x = some (.string s)) (hy : evx env y = some (.string r)) (h : s.size + r.size ≤ 9223372036854775807) : OV P env (.binOp .add t x y t') w (.string (s ++ r)) := by
  intro ρ hρ o ho; unfold execOp; rw [ho]
  simp [hρ hx, hρ hy, go_sem, binOp]
  exact h
theorem ov_beql {p q : Bool} (hx : evx env x = some (.bool p)) (hy : evx env y = some (.bool q)) (ht : P.underlying t = some .bool) : OV P env (.binOp .eql t x y t') w (.bool (p == q)) := by
  intro ρ hρ o ho; unfold execOp; rw [ho]; simp [hρ hx, hρ hy, go_sem, ht]
theorem ov_bneq {p q : Bool} (hx : evx env x = some (.bool p)) (hy : evx env y = some (.bool q)) (ht : P.underlying t = some .bool) : OV P env (.binOp .neq t x y t') w (.bool (!(p == q))) := by
  intro ρ hρ o ho; unfold execOp; rw [ho]; simp [hρ hx, hρ hy, go_sem, ht]
theorem ov_peql {p : Option Addr} (hx : evx env x = some (.pointer p)) (hy : evx env y = some (.pointer none)) (ht : P.underlying t = some (.pointer (P.pointee t))) : OV P env (.binOp .eql t x y t') w (.bool p.isNone) := by
  intro ρ hρ o ho; unfold execOp; rw [ho]
  have := run_eql_pointer_nil (P := P) w t p ht
  simp only [hρ hx, hρ hy, eqGuard_at_pointer, Sem.run_bind, Sem.run_pure, Result.andThen_ok, this]
theorem ov_pneq {p : Option Addr} (hx : evx env x = some (.pointer p)) (hy : evx env y = some (.pointer none)) (ht : P.underlying t = some (.pointer (P.pointee t))) : OV P env (.binOp .neq t x y t') w (.bool (!p.isNone)) := by
  intro ρ hρ o ho; unfold execOp; rw [ho]
  have := run_neq_pointer_nil (P := P) w t p ht
  simp only [hρ hx, hρ hy, eqGuard_at_pointer, Sem.run_bind, Sem.run_pure, Result.andThen_ok, this]
end bin

theorem ov_conv {x : Operand} {src dst : TypeId} {k k' : IntKind} {n : Int} (hx : evx env x = some (.int k' n)) (hs : (P.underlying src).isSome = true) (hd : P.underlying dst = some (.int k)) : OV P env (.convert src dst x) w (.int k (k.wrap n)) := by
  intro ρ hρ o ho; unfold execOp; rw [ho]; have e : P.intKind dst = k := by simp [Program.intKind, hd]
  subst e; simp [hρ hx, run_convert_int w src dst k' n hs hd]
theorem ov_nilCheck {x : Operand} {ad : Addr} (hx : evx env x = some (.pointer (some ad))) : OV P env (.nilCheck x) w (.pointer (some ad)) := by
  intro ρ hρ o ho; unfold execOp; rw [ho]; simp [hρ hx]
theorem ov_extract {x : Operand} {vs : Array Value} {i : Nat} (hx : evx env x = some (.tuple vs)) (hi : vs[i]? = some v) : OV P env (.extract x i) w v := by
  intro ρ hρ o ho; unfold execOp; rw [ho]; simp [hρ hx, Instr.extract, hi]
theorem ov_x20 {x : Operand} {a b : Value} (hx : evx env x = some (.tuple #[a, b])) : OV P env (.extract x 0) w a := ov_extract hx rfl
theorem ov_x21 {x : Operand} {a b : Value} (hx : evx env x = some (.tuple #[a, b])) : OV P env (.extract x 1) w b := ov_extract hx rfl
theorem ov_x30 {x : Operand} {a b c : Value} (hx : evx env x = some (.tuple #[a, b, c])) : OV P env (.extract x 0) w a := ov_extract hx rfl
theorem ov_x31 {x : Operand} {a b c : Value} (hx : evx env x = some (.tuple #[a, b, c])) : OV P env (.extract x 1) w b := ov_extract hx rfl
theorem ov_x32 {x : Operand} {a b c : Value} (hx : evx env x = some (.tuple #[a, b, c])) : OV P env (.extract x 2) w c := ov_extract hx rfl
theorem ov_iface {x : Operand} {t : TypeId} (hx : evx env x = some v) (ht : P.concrete t = true) : OV P env (.makeInterface t x) w (.iface t v) := by
  intro ρ hρ o ho; unfold execOp; rw [ho]; simp [hρ hx, run_makeInterface w t v ht]
theorem ov_strindex {x y : Operand} {t : TypeId} {s : ByteArray} {i : Int} {k : IntKind} (hx : evx env x = some (.string s)) (hy : evx env y = some (.int k i)) (ht : P.underlying t = some .string) (j : Nat) (hj : i = j) (hlt : j < s.size) : OV P env (.index t x y) w (.int .u8 (s[j]'hlt).toNat) := by
  intro ρ hρ o ho; unfold execOp; rw [ho]
  subst hj
  have := run_index_string (P := P) w t s k j ht
  rw [dif_pos ⟨by omega, by omega⟩] at this
  simp only [hρ hx, hρ hy]
  simp [this]
theorem elem_of {t e : TypeId} (h : P.underlying t = some (.slice e)) : P.elem t = e := by simp [Program.elem, h]

theorem ov_indexAddr {x y : Operand} {t e : TypeId} {b off len cap sz : Nat} {i : Int} {k : IntKind} [ht : TElem P t e] [hsz : TSize P e sz] (hx : evx env x = some (.slice (some ⟨b, off, none⟩) len cap)) (hy : evx env y = some (.int k i)) (j : Nat) (hj : i = j) (hlt : j < len) :
    OV P env (.indexAddr t x y) w (.pointer (some ⟨b, off + j * sz, none⟩)) := by
  intro ρ hρ o ho; unfold execOp; rw [ho]
  subst hj
  have := run_indexAt_slice (P := P) w t ⟨b, off, none⟩ len cap k j (by rw [elem_of ht.eq]; exact ht.eq)
  rw [if_pos ⟨by omega, by omega⟩, elem_of ht.eq, hsz.run] at this
  simp only [hρ hx, hρ hy, Sem.run_bind, this, Result.andThen_ok, Sem.run_pure, Int.toNat_natCast]
  congr 4
  unfold Addr.add
  split
  · rename_i h; rw [h]; rfl
  · rfl
theorem ov_indexAddr1 {x y : Operand} {t e : TypeId} {b len cap : Nat} {i : Int} {k : IntKind} [ht : TElem P t e] [hsz : TSize P e 1] (hx : evx env x = some (.slice (some ⟨b, 0, none⟩) len cap)) (hy : evx env y = some (.int k i)) (j : Nat) (hj : i = j) (hlt : j < len) :
    OV P env (.indexAddr t x y) w (.pointer (some ⟨b, j, none⟩)) := by
  have := ov_indexAddr (P := P) (w := w) (t := t) (e := e) (sz := 1) hx hy j hj hlt
  simpa using this
theorem ov_indexAddr1o {x y : Operand} {t e : TypeId} {b off len cap : Nat} {i : Int} {k : IntKind} [ht : TElem P t e] [hsz : TSize P e 1] (hx : evx env x = some (.slice (some ⟨b, off, none⟩) len cap)) (hy : evx env y = some (.int k i)) (j : Nat) (hj : i = j) (hlt : j < len) :
    OV P env (.indexAddr t x y) w (.pointer (some ⟨b, off + j, none⟩)) := by
  have := ov_indexAddr (P := P) (w := w) (t := t) (e := e) (sz := 1) hx hy j hj hlt
  simpa using this
theorem ov_fieldAddr {x : Operand} {t : TypeId} {f off b o : Nat} [ht : TField P t f off] (hx : evx env x = some (.pointer (some ⟨b, o, none⟩))) : OV P env (.fieldAddr t x f) w (.pointer (some ⟨b, o + off, none⟩)) := by
  intro ρ hρ q ho; unfold execOp; rw [ho]
  simp only [hρ hx, Sem.run_bind, ht.run, Result.andThen_ok, Sem.run_pure]
theorem ov_len_str {x : Operand} {t : TypeId} {s : ByteArray} [ht : TStr P t] (hx : evx env x = some (.string s)) : OV P env (.call { callee := .builtin .len, args := #[x], argTypes := #[t] }) w (.int .i64 s.size) := by
  intro ρ hρ o ho
  cases o
  simp only at ho
  subst ho
  have := run_len_string (P := P) w t 0 s ht.eq
  rw [BigFrame.execOp_builtin]
  simp [hρ hx, BigFrame.builtin_len, run_len_string w t _ s ht.eq, goInt]
theorem ov_len_slice {x : Operand} {t e : TypeId} {a : Option Addr} {n c : Nat} [ht : TElem P t e] (hx : evx env x = some (.slice a n c)) : OV P env (.call { callee := .builtin .len, args := #[x], argTypes := #[t] }) w (.int .i64 n) := by
  intro ρ hρ o ho
  cases o
  simp only at ho
  subst ho
  rw [BigFrame.execOp_builtin]
  simp [hρ hx, BigFrame.builtin_len, run_len_slice w t _ a n c (by rw [elem_of ht.eq]; exact ht.eq), goInt]
theorem ov_strslice {x : Operand} {t : TypeId} {s : ByteArray} [ht : TStr P t] {lo hi : Operand} {k k' : IntKind} {i j : Int} (hx : evx env x = some (.string s)) (hl : evx env lo = some (.int k i)) (hh : evx env hi = some (.int k' j)) (m n : Nat) (hi' : i = m) (hj' : j = n) (h1 : m ≤ n) (h2 : n ≤ s.size) :
    OV P env (.slice t x (some lo) (some hi) none) w (.string (s.extract m n)) := by
  intro ρ hρ o ho; unfold execOp; rw [ho]
  subst hi'; subst hj'
  have := run_slice_string (P := P) w t s k k' m n ht.eq (by omega) (by omega) (by omega)
  simp only [hρ hx, Option.map_some, Option.map_none, hρ hl, hρ hh, run_sliceAt_string w t _ _ _ _ ht.eq, Sem.run_bind, this, Result.andThen_ok, Int.toNat_natCast, Sem.run_pure]
theorem ov_strfrom {x : Operand} {t : TypeId} {s : ByteArray} [ht : TStr P t] {lo : Operand} {k : IntKind} {i : Int} (hx : evx env x = some (.string s)) (hl : evx env lo = some (.int k i)) (m : Nat) (hi' : i = m) (h2 : m ≤ s.size) :
    OV P env (.slice t x (some lo) none none) w (.string (s.extract m s.size)) := by
  intro ρ hρ o ho; unfold execOp; rw [ho]
  subst hi'
  have := run_slice_string_from_if (P := P) w t s k m ht.eq
  rw [if_pos ⟨by omega, by omega⟩] at this
  simp only [hρ hx, Option.map_some, Option.map_none, hρ hl, run_sliceAt_string w t _ _ _ _ ht.eq, Sem.run_bind, this, Result.andThen_ok, Int.toNat_natCast, Sem.run_pure]
theorem ov_strto {x : Operand} {t : TypeId} {s : ByteArray} [ht : TStr P t] {hi : Operand} {k : IntKind} {i : Int} (hx : evx env x = some (.string s)) (hl : evx env hi = some (.int k i)) (m : Nat) (hi' : i = m) (h2 : m ≤ s.size) :
    OV P env (.slice t x none (some hi) none) w (.string (s.extract 0 m)) := by
  intro ρ hρ o ho; unfold execOp; rw [ho]
  subst hi'
  have := run_slice_string_to_if (P := P) w t s k m ht.eq
  rw [if_pos ⟨by omega, by omega⟩] at this
  simp only [hρ hx, Option.map_some, Option.map_none, hρ hl, run_sliceAt_string w t _ _ _ _ ht.eq, Sem.run_bind, this, Result.andThen_ok, Int.toNat_natCast, Sem.run_pure]
theorem ov_load1 {x : Operand} {t : TypeId} {ad : Addr} [ht : TAgg P t false] (hx : evx env x = some (.pointer (some ad))) (hc : w.cell? ad = some v) : OV P env (.load t x) w v := by
  intro ρ hρ o ho; unfold execOp; rw [ho]
  simp only [hρ hx, Instr.loadAt, Instr.sureAddr, loadVar, Sem.run_bind, Sem.run_pure, Result.andThen_ok, ht.run]
  simp [load, Sem.run, hc]
theorem ov_loadAgg {x : Operand} {t : TypeId} {ad : Addr} {n : Nat} {cs : List Value} [ht : TAgg P t true] [hs : TSize P t n] (hx : evx env x = some (.pointer (some ad))) (hn : cs.length = n) (hc : ∀ j u, cs[j]? = some u → w.cell? (ad.add j) = some u) : OV P env (.load t x) w (.agg cs.toArray) := by
  intro ρ hρ o ho; unfold execOp; rw [ho]
  have := run_loadCells_list (P := P) (w := w) ad cs hc
  subst hn
  simp only [hρ hx, Instr.loadAt, Instr.sureAddr, loadVar, Sem.run_bind, Sem.run_pure, Result.andThen_ok, ht.run]
  simp [this, hs.run]

/-! Memory. -/
/-- Block b holds the cells cs. -/
def Blk (w : World) (b : Nat) (cs : List Value) (t : TypeId) : Prop := w.heap[b]? = some (.cells cs.toArray t (0, 0))
theorem Blk.lt {b : Nat} {cs : List Value} {t : TypeId} (h : Blk w b cs t) : b < w.heap.size := (Array.getElem?_eq_some_iff.1 h).1
theorem Blk.cell {b : Nat} {cs : List Value} {t : TypeId} (h : Blk w b cs t) {i : Nat} (hi : cs[i]? = some v) : w.cell? ⟨b, i, none⟩ = some v := by
  unfold Blk at h; simp [World.cell?, h, hi]
theorem Blk.cells {b : Nat} {cs : List Value} {t : TypeId} (h : Blk w b cs t) : ∀ j u, cs[j]? = some u → w.cell? ((⟨b, 0, none⟩ : Addr).add j) = some u := by
  intro j u hj
  have e : (⟨b, 0, none⟩ : Addr).add j = ⟨b, j, none⟩ := by unfold Addr.add; split <;> simp [*]
  rw [e]; exact h.cell hj
theorem Blk.frozen {b : Nat} {cs : List Value} {t : TypeId} (h : Blk w b cs t) (i : Nat) : w.frozen? ⟨b, i, none⟩ = false := by
  unfold Blk at h; simp [World.frozen?, h]
theorem Blk.below {b B : Nat} {cs : List Value} {t : TypeId} (h : Blk w b cs t) (hb : Below B w w') (hl : b < B) : Blk w' b cs t := (hb.block b hl).trans h
theorem Blk.ext {b : Nat} {cs : List Value} {t : TypeId} (h : Blk w b cs t) (hb : Below w.heap.size w w') : Blk w' b cs t := h.below hb h.lt
theorem Blk.grown {b : Nat} {cs : List Value} {t : TypeId} {row : Option Nat} (h : Blk w b cs t) (hg : w.grownBy w' row) (hne : some b ≠ row) : Blk w' b cs t := (hg.block b h.lt hne).trans h
theorem grownBy_of_below {row : Option Nat} (h : Below w.heap.size w w') : w.grownBy w' row := ⟨h.os, h.tape, h.output, h.size, fun k hk _ => h.block k hk⟩
theorem below_of_grownBy {B : Nat} {b : Nat} (h : w.grownBy w' (some b)) (hb : B ≤ b) (hs : B ≤ w.heap.size) : Below B w w' := ⟨h.os, h.tape, h.output, h.size, fun k hk => h.block k (by omega) (by simp; omega)⟩

def spl (cs : List Value) (off : Nat) (vs : List Value) : List Value := cs.take off ++ vs ++ cs.drop (off + vs.length)
/-- A store into a known block. -/
theorem j_store {x y : Operand} {t t0 : TypeId} {b off n : Nat} {cs : List Value} {v : Value} [hs : TSize P t n] (hx : evx env x = some (.pointer (some ⟨b, off, none⟩))) (hy : evx env y = some v) (hb : Blk w b cs t0) (hn : v.cells.size = n) (hl : off + n ≤ cs.length) (h1 : v.cells.toList.all (·.oneCell') = true)
    (h : ∀ w', Blk w' b (spl cs off v.cells.toList) t0 → w.grownBy w' (some b) → w'.heap.size = w.heap.size → J N env w' (wpList P ops Q rest)) :
    J N env w (wpList P ops Q (⟨none, .store t x y, ty, pos, after, none⟩ :: rest)) := by
  have hrun := run_storeCells_at (P := P) b off t0 v.cells.toList 0 cs.toArray w hb (by simp; omega) (fun u hu => List.all_eq_true.1 h1 u hu)
  refine j_eu (w' := w.setRow b (spl cs off v.cells.toList).toArray) ?_ (h _ ?_ ?_ ?_)
  · intro ρ hρ o ho; unfold execOp; rw [ho]
    simp only [hρ hx, hρ hy, Instr.storeAt, Instr.sureAddr, storeVar, Sem.run_bind, Sem.run_pure, Result.andThen_ok, hs.run]
    simp only [Nat.add_zero] at hrun
    simp [hn, hrun, spl]
  · exact setRow_heap w b cs.toArray _ t0 (0, 0) hb
  · refine ⟨rfl, rfl, rfl, by simp [World.setRow], fun k hk hne => ?_⟩
    simp only [World.setRow]
    rw [Array.getElem?_modify]
    have : ¬ b = k := fun e => hne (by rw [e])
    simp [this]
  · simp [World.setRow]
theorem spl_one (cs : List Value) (off : Nat) (v : Value) (h : off < cs.length) : spl cs off [v] = cs.set off v := by
  unfold spl
  rw [List.set_eq_take_append_cons_drop, if_pos h]
  simp
theorem oneCell_cells {v : Value} (h : v.oneCell' = true) : v.cells = #[v] := by
  cases v <;> first | rfl | (simp [Value.oneCell'] at h)
/-- A store of one cell into a known block. -/
theorem j_store1 {x y : Operand} {t t0 : TypeId} {b off : Nat} {cs : List Value} {v : Value} [hs : TSize P t 1] (hx : evx env x = some (.pointer (some ⟨b, off, none⟩))) (hy : evx env y = some v) (hb : Blk w b cs t0) (h1 : v.oneCell' = true) (hl : off < cs.length)
    (h : ∀ w', Blk w' b (cs.set off v) t0 → w.grownBy w' (some b) → w'.heap.size = w.heap.size → J N env w' (wpList P ops Q rest)) :
    J N env w (wpList P ops Q (⟨none, .store t x y, ty, pos, after, none⟩ :: rest)) := by
  have hc := oneCell_cells h1
  refine j_store (n := 1) hx hy hb (by rw [hc]; rfl) (by omega) (by rw [hc]; simp [h1]) (fun w' h2 h3 h4 => h w' ?_ h3 h4)
  rw [hc] at h2
  rw [← spl_one cs off v hl]
  exact h2
theorem j_new {op : Op} {cs : List Value} {t : TypeId} (hd : Nat.blt d N = true) (hv : EV P env op w (.pointer (some ⟨w.heap.size, 0, none⟩)) (w.alloc (.cells cs.toArray t)))
    (h : ∀ w', Blk w' w.heap.size cs t → Below w.heap.size w w' → w'.heap.size = w.heap.size + 1 → J N ((d, .pointer (some ⟨w.heap.size, 0, none⟩)) :: env) w' (wpList P ops Q rest)) :
    J N env w (wpList P ops Q (⟨some d, op, ty, pos, after, none⟩ :: rest)) :=
  j_ev hd hv (h _ (by unfold Blk; show (w.heap.push _)[w.heap.size]? = _; simp) ((Below.refl _ _).alloc (Nat.le_refl _) _) (by simp))
theorem ev_alloc {t : TypeId} {z : Value} [hz : TZero P t z] : EV P env (.alloc t) w (.pointer (some ⟨w.heap.size, 0, none⟩)) (w.alloc (.cells z.cells.toList.toArray t)) := by
  intro ρ hρ o ho; unfold execOp; rw [ho]
  simp only [Instr.alloc, newVar, newRow, newObj, Sem.run_bind, Sem.run_pure, Result.andThen_ok, hz.run]
  simp
  rfl
theorem ev_box {t : TypeId} {x : Operand} (hx : evx env x = some v) : EV P env (.box t x) w (.pointer (some ⟨w.heap.size, 0, none⟩)) (w.alloc (.cells v.cells.toList.toArray t)) := by
  intro ρ hρ o ho; unfold execOp; rw [ho]
  simp only [hρ hx, Instr.box, newVar, newRow, newObj, Sem.run_bind, Sem.run_pure]
  simp
  rfl

/-! Calls. -/
def callable (P : Program) (f : FuncId) : Bool := match P.funcs[f]? with
  | some fn => !(fn.name == "runtime.NumGoroutine") && !fn.body.isNone
  | none => false
theorem run_enter {f : FuncId} {args : Array Value} (h : callable P f = true) : (callFunc f args).run P w = .ok (.enter f args) w := by
  unfold callable at h
  cases hf : P.funcs[f]? with
  | none => rw [hf] at h; cases h
  | some fn =>
    rw [hf] at h
    simp only [Bool.and_eq_true, Bool.not_eq_true'] at h
    unfold callFunc
    have h1 : ¬ fn.name = "runtime.NumGoroutine" := by simpa using h.1
    have h2 : ¬ fn.body = none := by intro e; rw [e] at h; simp at h
    simp [hf, h1, h2]
theorem evs_map {ρ : Operand → Value} (hρ : ∀ {x : Operand} {u : Value}, evx env x = some u → ρ x = u) : ∀ {xs : Array Operand} {vs : List Value}, evs env xs.toList = some vs → xs.map ρ = vs.toArray := by
  intro xs vs h
  obtain ⟨l⟩ := xs
  simp only at h
  have : ∀ (l : List Operand) (vs : List Value), evs env l = some vs → l.map ρ = vs := by
    intro l
    induction l with
    | nil => intro vs h; simp [evs] at h; simp [h]
    | cons x l ih =>
      intro vs h
      unfold evs at h
      split at h
      · rename_i v us hv hus
        simp at h; subst h
        simp [hρ hv, ih us hus]
      · cases h
  simp [this l vs h]
theorem j_call {f : FuncId} {xs : Array Operand} {ats : Array TypeId} {args : List Value} {R : Ending → World → Prop} (hc : callable P f = true) (hd : Nat.blt d N = true) (hx : evs env xs.toList = some args) (hC : Calls P f args.toArray w R)
    (h : ∀ e w', R e w' → ∃ v, e = .returned v ∧ J N ((d, v) :: env) w' (wpList P ops Q rest)) :
    J N env w (wpList P ops Q (⟨some d, .call { callee := .value (.func f), args := xs, argTypes := ats }, ty, pos, after, none⟩ :: rest)) := by
  intro a ha
  refine wpList_plain rfl (fun K hK => ?_)
  unfold Oper.wp
  have e : (execOp a.eval ⟨some d, .call { callee := .value (.func f), args := xs, argTypes := ats }, ty, pos, after, none⟩).run P w = .ok (.enter f args.toArray) w := by
    unfold execOp
    have hm : xs.map a.eval = args.toArray := evs_map (fun h => ha.ev h) hx
    simp only [resolve, hm, Sem.run_bind]
    rw [ha.ev (x := .func f) rfl]
    simp [Deferred.ofValue, invoke, run_enter hc]
  rw [e]
  refine hC.mono ?_
  intro e w' hr
  obtain ⟨v, rfl, hj⟩ := h e w' hr
  exact hK _ _ (hj _ (ha.put hd v))
/-- A call of a method on an interface value whose type is known. -/
theorem j_invoke {f : FuncId} {r : Operand} {m : String} {xs : Array Operand} {ats : Array TypeId} {tt : TypeId} {rv rc : Value} {args : List Value} {R : Ending → World → Prop} (hm : ∀ w, (method (P.types.size + Made.depth) tt rv m).run P w = .ok (f, rc) w) (hc : callable P f = true) (hd : Nat.blt d N = true)
    (hr : evx env r = some (.iface tt rv)) (hx : evs env xs.toList = some args) (hC : Calls P f (rc :: args).toArray w R)
    (h : ∀ e w', R e w' → ∃ v, e = .returned v ∧ J N ((d, v) :: env) w' (wpList P ops Q rest)) :
    J N env w (wpList P ops Q (⟨some d, .call { callee := .invoke r m, args := xs, argTypes := ats }, ty, pos, after, none⟩ :: rest)) := by
  intro a ha
  refine wpList_plain rfl (fun K hK => ?_)
  unfold Oper.wp
  have e : (execOp a.eval ⟨some d, .call { callee := .invoke r m, args := xs, argTypes := ats }, ty, pos, after, none⟩).run P w = .ok (.enter f (rc :: args).toArray) w := by
    unfold execOp
    have hm' : xs.map a.eval = args.toArray := evs_map (fun h => ha.ev h) hx
    simp only [resolve, hm', Sem.run_bind, Sem.run_pure, Result.andThen_ok, ha.ev hr]
    simp [invoke, callMethod, hm, run_enter hc]
  rw [e]
  refine hC.mono ?_
  intro e w' hr
  obtain ⟨v, rfl, hj⟩ := h e w' hr
  exact hK _ _ (hj _ (ha.put hd v))

/-! Rows of the call's own. -/
theorem j_append {s x : Operand} {t e : TypeId} {z : Value} {size bytes : Nat} [ht : TElem P t e] [hi : TInfo P e z size bytes] {v : Value} {n : Nat} {xs : List Value} {base : Nat} {ad : Addr} {m c : Nat} {news : List Value}
    (hd : Nat.blt d N = true) (hs : evx env s = some v) (hx : evx env x = some (.slice (some ad) m c)) (hown : w.ownsRow base e size v n xs) (hnews : ∀ j u, news[j]? = some u → w.cell? (ad.add j) = some u) (hl : news.length = m * size) (h1 : news.all (·.oneCell') = true)
    (hzs : z.cells.size = size) (hsz : Nat.blt 0 size = true) (h63 : (n + m) * bytes ≤ 140737488355328) (h64 : n + m ≤ maxLen) (hbase : base ≤ w.heap.size)
    (h : ∀ v' w', w'.ownsRow base e size v' (n + m) (xs ++ news) → w.grownBy w' v.ownBlock → (v' = .slice none 0 0 ↔ v = .slice none 0 0 ∧ m = 0) → J N ((d, v') :: env) w' (wpList P ops Q rest)) :
    J N env w (wpList P ops Q (⟨some d, .call { callee := .builtin .append, args := #[s, x], argTypes := #[t, t] }, ty, pos, after, none⟩ :: rest)) := by
  obtain ⟨i, hi1, hi2, hi3, hi4⟩ := info_parts hi.eq
  obtain ⟨v', w', hr, ho, hg, hn⟩ := run_append_own (P := P) w base t ty e i z size bytes ht.eq hi1 hi2 hi3 hi4 hzs (Nat.blt_eq ▸ hsz) v n xs hown ad m c news hl hnews (fun u hu => List.all_eq_true.1 h1 u hu) h64 h63 hbase
  intro a ha
  refine wpList_plain rfl (fun K hK => ?_)
  unfold Oper.wp
  rw [BigFrame.execOp_builtin]
  have e1 := ha.ev hs
  have e2 := ha.ev hx
  simp only [List.map_toArray, List.map_cons, List.map_nil, e1, e2, BigFrame.builtin_append, Sem.run_bind, hr, Result.andThen_ok, Sem.run_pure]
  exact hK _ _ (h v' w' ho hg hn _ (ha.put hd v'))

/-! The call's beginning and end. -/
def argEnv : Nat → List Value → Env
  | _, [] => []
  | k, v :: l => (k, v) :: argEnv (k + 1) l
theorem j_enter {f : FuncId} {fn : Func} {c : Code} {args : List Value} {R : Ending → World → Prop} (hf : P.funcs[f]? = some fn) (hb : fn.body = some c) (hN : fn.ntmps = N) (hl : Nat.ble args.length N = true)
    (h : J N (argEnv 0 args) w (Code.wp P c (bodyPost P fn R))) : Calls P f args.toArray w R := by
  refine calls_of_wp hf hb (h _ ⟨rfl, ?_, ?_⟩)
  · have := Nat.le_of_ble_eq_true hl; simp [hN]; omega
  · have key : ∀ (l : List Value) (k t : Nat) (v : Value), look (argEnv k l) t = some v → k ≤ t ∧ l[t - k]? = some v := by
      intro l
      induction l with
      | nil => intro k t v h; cases h
      | cons u l ih =>
        intro k t v h
        rw [argEnv, look_cons] at h
        by_cases hk : Nat.beq k t = true
        · rw [hk] at h
          have e : k = t := Nat.eq_of_beq_eq_true hk
          subst e
          simpa using h
        · have hk' : Nat.beq k t = false := Bool.eq_false_iff.2 hk
          rw [hk'] at h
          obtain ⟨h1, h2⟩ := ih (k + 1) t v h
          refine ⟨by omega, ?_⟩
          rw [show t - k = (t - (k + 1)) + 1 by omega]
          simpa using h2
    intro t v hv
    obtain ⟨_, h2⟩ := key args 0 t v hv
    simp only [Nat.sub_zero] at h2
    have hlt : t < args.length := (List.getElem?_eq_some_iff.1 h2).1
    simp [Array.getD, hlt]
    rw [List.getElem?_eq_getElem hlt] at h2
    rw [if_pos (by omega)]
    simpa using h2
theorem j_ret1 {fn : Func} {R : Ending → World → Prop} {t : Tmp} (hf : fn.results = #[.tmp t]) (hv : look env t = some v) (h : R (.returned v) w) : J N env w (bodyPost P fn R .ret) := by
  intro a ha
  have := ha.get t v hv
  exact bodyPost_ret (results_tmp hf _ _ _) ha.defers (by rw [this]; exact h)
theorem j_ret2 {fn : Func} {R : Ending → World → Prop} {t u : Tmp} {v2 : Value} (hf : fn.results = #[.tmp t, .tmp u]) (hv : look env t = some v) (hv2 : look env u = some v2) (h : R (.returned (.tuple #[v, v2])) w) : J N env w (bodyPost P fn R .ret) := by
  intro a ha
  have h1 := ha.get t v hv
  have h2 := ha.get u v2 hv2
  exact bodyPost_ret (results_tmp2 hf _ _ _) ha.defers (by rw [h1, h2]; exact h)
theorem j_ret3 {fn : Func} {R : Ending → World → Prop} {t u s : Tmp} {v2 v3 : Value} (hf : fn.results = #[.tmp t, .tmp u, .tmp s]) (hv : look env t = some v) (hv2 : look env u = some v2) (hv3 : look env s = some v3) (h : R (.returned (.tuple #[v, v2, v3])) w) : J N env w (bodyPost P fn R .ret) := by
  intro a ha
  have h1 := ha.get t v hv
  have h2 := ha.get u v2 hv2
  have h3 := ha.get s v3 hv3
  exact bodyPost_ret (results_tmp3 hf _ _ _) ha.defers (by rw [h1, h2, h3]; exact h)
theorem j_ret0 {fn : Func} {R : Ending → World → Prop} (hf : fn.results = #[]) (h : R (.returned (.tuple #[])) w) : J N env w (bodyPost P fn R .ret) := by
  intro a ha
  exact bodyPost_ret (results_none hf _ _ _) ha.defers h
theorem j_end {fn : Func} {R : Ending → World → Prop} (h : J N env w (bodyPost P fn R .ret)) : J N env w (bodyPost P fn R .normal) := h
/-! Regions that draw their order: all operations but a tail leave the world alone. -/
def JS (N : Nat) (env : Env) (F : Act → Prop) : Prop := ∀ a, St N env a → F a
theorem below_drew (w : World) : Below w.heap.size w w.drew := ⟨rfl, rfl, rfl, Nat.le_refl _, fun _ _ => rfl⟩
theorem j_region_tail {id : Nat} {l : List Oper} (n : Nat) (hm : P.follows .mixedOrders = true) (hB : Region.lexTailB .any l.toArray n = true)
    (h : ∀ w1, Below w.heap.size w w1 → w1.heap.size = w.heap.size → JS N env (wpStill P l.toArray w1 (fun a' => wpList P l.toArray Q (l.drop n) a' w1) (l.take n))) : J N env w (Code.wp P (.region id l.toArray true) Q) :=
  fun a ha => wp_region_still_tail n hm hB (h w.drew (below_drew w) rfl a ha)
theorem j_region_still {id : Nat} {l : List Oper} (hm : P.follows .mixedOrders = true) (hB : Region.lexB .any l.toArray = true)
    (h : ∀ w1, Below w.heap.size w w1 → w1.heap.size = w.heap.size → JS N env (wpStill P l.toArray w1 (fun a' => Q .normal a' w1) l)) : J N env w (Code.wp P (.region id l.toArray true) Q) :=
  fun a ha => wp_region_still_lit hm hB (h w.drew (below_drew w) rfl a ha)
section still
variable {R : Act → Prop}
theorem js_nil (h : JS N env R) : JS N env (wpStill P ops w R []) := fun a ha => wpStill_nil (h a ha)
theorem js_end {F : Act → World → Prop} (h : J N env w F) : JS N env (fun a' => F a' w) := h
theorem js_op (hd : Nat.blt d N = true) (hv : OV P env op w v) (h : JS N ((d, v) :: env) (wpStill P ops w R rest)) : JS N env (wpStill P ops w R (⟨some d, op, ty, pos, after, none⟩ :: rest)) := by
  intro a ha
  refine wpStill_step (fun K hK => ?_)
  have e : Region.wanted ⟨some d, op, ty, pos, after, none⟩ (yielded ops a.tmps) = true := by simp [Region.wanted]
  rw [if_pos e]
  unfold Oper.still
  rw [hv a.eval (fun h => ha.ev h) _ rfl, Oper.stillUpon_value]
  exact hK _ (h _ (ha.put hd v))
theorem js_yes {j : Nat} {want : Bool} {oj : Oper} {dj : Nat} (hj : ops[j]? = some oj) (hdj : oj.dst = some dj) (hl : look env dj = some (.bool want)) (hd : Nat.blt d N = true) (hv : OV P env op w v) (h : JS N ((d, v) :: env) (wpStill P ops w R rest)) :
    JS N env (wpStill P ops w R (⟨some d, op, ty, pos, after, some (j, want)⟩ :: rest)) := by
  intro a ha
  refine wpStill_step (fun K hK => ?_)
  have e : Region.wanted ⟨some d, op, ty, pos, after, some (j, want)⟩ (yielded ops a.tmps) = true := by rw [wanted_of rfl hj hdj ha hl]; simp
  rw [if_pos e]
  unfold Oper.still
  rw [hv a.eval (fun h => ha.ev h) _ rfl, Oper.stillUpon_value]
  exact hK _ (h _ (ha.put hd v))
theorem js_no {j : Nat} {want b : Bool} {oj : Oper} {dj : Nat} (hj : ops[j]? = some oj) (hdj : oj.dst = some dj) (hl : look env dj = some (.bool b)) (hb : (b == want) = false) (hd : Nat.blt d N = true) (h : JS N ((d, undef) :: env) (wpStill P ops w R rest)) :
    JS N env (wpStill P ops w R (⟨some d, op, ty, pos, after, some (j, want)⟩ :: rest)) := by
  intro a ha
  refine wpStill_step (fun K hK => ?_)
  have e : Region.wanted ⟨some d, op, ty, pos, after, some (j, want)⟩ (yielded ops a.tmps) = false := by rw [wanted_of rfl hj hdj ha hl, hb]
  rw [if_neg (by rw [e]; exact Bool.false_ne_true)]
  exact hK _ (h _ (ha.put hd undef))
theorem js_undef {j : Nat} {want : Bool} {oj : Oper} {dj : Nat} (hj : ops[j]? = some oj) (hdj : oj.dst = some dj) (hl : look env dj = some undef) (hd : Nat.blt d N = true) (h : JS N ((d, undef) :: env) (wpStill P ops w R rest)) :
    JS N env (wpStill P ops w R (⟨some d, op, ty, pos, after, some (j, want)⟩ :: rest)) := by
  intro a ha
  refine wpStill_step (fun K hK => ?_)
  have e : Region.wanted ⟨some d, op, ty, pos, after, some (j, want)⟩ (yielded ops a.tmps) = false := wanted_undef rfl hj hdj ha hl
  rw [if_neg (by rw [e]; exact Bool.false_ne_true)]
  exact hK _ (h _ (ha.put hd undef))
/-- A call that leaves the world alone, within such a region. -/
theorem js_call {f : FuncId} {xs : Array Operand} {ats : Array TypeId} {args : List Value} (hc : callable P f = true) (hd : Nat.blt d N = true) (hx : evs env xs.toList = some args) (hC : Calls P f args.toArray w fun e w' => e = .returned v ∧ w = w')
    (h : JS N ((d, v) :: env) (wpStill P ops w R rest)) :
    JS N env (wpStill P ops w R (⟨some d, .call { callee := .value (.func f), args := xs, argTypes := ats }, ty, pos, after, none⟩ :: rest)) := by
  intro a ha
  refine wpStill_step (fun K hK => ?_)
  rw [if_pos (by simp [Region.wanted])]
  unfold Oper.still
  have e : (execOp a.eval ⟨some d, .call { callee := .value (.func f), args := xs, argTypes := ats }, ty, pos, after, none⟩).run P w = .ok (.enter f args.toArray) w := by
    unfold execOp
    have hm : xs.map a.eval = args.toArray := evs_map (fun h => ha.ev h) hx
    simp only [resolve, hm, Sem.run_bind]
    rw [ha.ev (x := .func f) rfl]
    simp [Deferred.ofValue, invoke, run_enter hc]
  rw [e]
  exact ⟨rfl, v, hC.mono (fun _ _ ⟨h1, h2⟩ => ⟨h1, h2.symm⟩), hK _ (h _ (ha.put hd v))⟩
end still
theorem ov_makeFunc {fn : Fn} {first captured : Array Operand} {vs us : List Value} (h1 : evs env first.toList = some vs) (h2 : evs env captured.toList = some us) : OV P env (.makeFunc fn first captured) w (.func fn vs.toArray us.toArray) := by
  intro ρ hρ o ho; unfold execOp; rw [ho]
  simp [evs_map hρ h1, evs_map hρ h2, Instr.makeFunc]
theorem ov_nilCheckM {x : Operand} {name : String} {tt : TypeId} {rv : Value} {cap : Array Value} (hx : evx env x = some (.func (.method name) #[.iface tt rv] cap)) (hn : ∀ w, (nilAhead (P.types.size + Made.depth) tt rv name).run P w = .ok (some false) w) : OV P env (.nilCheck x) w (.func (.method name) #[.iface tt rv] cap) := by
  intro ρ hρ o ho; unfold execOp; rw [ho]
  simp [hρ hx, hn]
theorem j_mk {t e : TypeId} {n : Nat} {kl kc : IntKind} {l c : Operand} {z : Value} {size bytes : Nat} [ht : TElem P t e] [hi : TInfo P e z size bytes] (hd : Nat.blt d N = true) (hl : evx env l = some (.int kl ((n : Nat) : Int))) (hc : evx env c = some (.int kc ((n : Nat) : Int))) (hb : bytes * n ≤ 281474976710656) (hn : n ≤ maxLen)
    (h : ∀ w', Blk w' w.heap.size (madeCells z.cells (n * size)).toList e → Below w.heap.size w w' → J N ((d, .slice (some ⟨w.heap.size, 0, none⟩) n n) :: env) w' (wpList P ops Q rest)) :
    J N env w (wpList P ops Q (⟨some d, .makeSlice t l c, ty, pos, after, none⟩ :: rest)) := by
  obtain ⟨i, hi1, hi2, hi3, hi4⟩ := info_parts hi.eq
  subst hi4
  obtain ⟨w', hr, ho, hg⟩ := run_make_full (P := P) w w.heap.size t e i z size ht.eq hi1 hi2 hi3 kl kc n hb hn (Nat.le_refl _)
  refine j_ev hd (w' := w') ?_ (h w' ?_ ⟨hg.os, hg.tape, hg.output, hg.size, fun k hk => hg.block k hk (by simp)⟩)
  · intro ρ hρ o ho; unfold execOp; rw [ho]
    simp [hρ hl, hρ hc, hr]
  · obtain ⟨h1, h2⟩ := ho
    rcases h2 with ⟨h2, _⟩ | ⟨g, cap, cur, h2, _, h3, h4, h5, h6, h7⟩
    · cases h2
    · cases h2
      unfold Blk
      rw [h3]
      have : cur.toList = (madeCells z.cells (n * size)).toList := by rw [← h7]; rw [List.take_of_length_le (by simp; omega)]
      rw [← this]
end
end Go.Proofs.YtddiecdoaggaaaaGreatDoor
