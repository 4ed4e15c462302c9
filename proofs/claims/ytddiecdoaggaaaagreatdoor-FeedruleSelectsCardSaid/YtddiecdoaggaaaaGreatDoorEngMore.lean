/- The engine: calls of function values, slice literals, appends of what may be nil, reslicing. No program. -/
import Derived.Test.YtddiecdoaggaaaaGreatDoorEngHeld
import Derived.Great.BuildSlice
import Derived.Laws.OwnMore
import Derived.Lib.MinMax
import Derived.Laws.Cover3
namespace Go.Proofs.YtddiecdoaggaaaaGreatDoor
open Go.RowKit

section
variable {P : Program} {N : Nat} {env : Env} {w w' : World} {Q : Exit → Act → World → Prop} {ops : Array Oper} {rest : List Oper} {d : Nat} {ty : TypeId} {pos : String} {after : Array Edge} {v : Value}
/-- A call of a function value: what it has captured comes last. -/
theorem j_callv {f : FuncId} {g : Operand} {xs : Array Operand} {ats : Array TypeId} {args : List Value} {cap : Array Value} {R : Ending → World → Prop} (hc : callable P f = true) (hd : Nat.blt d N = true) (hg : evx env g = some (.func (.func f) #[] cap)) (hx : evs env xs.toList = some args) (hC : Calls P f (args.toArray ++ cap) w R)
    (h : ∀ e w', R e w' → ∃ v, e = .returned v ∧ J N ((d, v) :: env) w' (wpList P ops Q rest)) :
    J N env w (wpList P ops Q (⟨some d, .call { callee := .value g, args := xs, argTypes := ats }, ty, pos, after, none⟩ :: rest)) := by
  intro a ha
  refine wpList_plain rfl (fun K hK => ?_)
  unfold Oper.wp
  have e : (execOp a.eval ⟨some d, .call { callee := .value g, args := xs, argTypes := ats }, ty, pos, after, none⟩).run P w = .ok (.enter f (args.toArray ++ cap)) w := by
    unfold execOp
    have hm : xs.map a.eval = args.toArray := evs_map (fun h => ha.ev h) hx
    simp only [resolve, hm, Sem.run_bind]
    rw [ha.ev hg]
    simp [Deferred.ofValue, invoke, run_enter hc]
  rw [e]
  refine hC.mono ?_
  intro e w' hr
  obtain ⟨v, rfl, hj⟩ := h e w' hr
  exact hK _ _ (hj _ (ha.put hd v))
theorem parts_zip {ρ : Operand → Value} (hρ : ∀ {x : Operand} {u : Value}, evx env x = some u → ρ x = u) {parts : Array (Nat × Operand)} {vs : List Value} (hx : evs env (parts.toList.map (·.2)) = some vs) : (parts.map fun (i, x) => (i, ρ x)).toList = (parts.toList.map (·.1)).zip vs := by
  have key : ∀ (l : List (Nat × Operand)) (vs : List Value), evs env (l.map (·.2)) = some vs → l.map (fun (i, x) => (i, ρ x)) = (l.map (·.1)).zip vs := by
    intro l
    induction l with
    | nil => intro vs h; simp [evs] at h; simp
    | cons x l ih =>
      intro vs h
      simp only [List.map_cons] at h
      unfold evs at h
      split at h
      · rename_i v us hv hus
        simp at h; subst h
        simp [hρ hv, ih us hus]
      · cases h
  simpa using key _ _ hx
/-- A slice literal whose elements are one cell each. -/
theorem j_lit {parts : Array (Nat × Operand)} {vs : List Value} {n : Nat} {t e : TypeId} {z : Value} {bytes : Nat} [ht : TElem P t e] [hi : TInfo P e z 1 bytes] (hd : Nat.blt d N = true) (hx : evs env (parts.toList.map (·.2)) = some vs) (hp : parts.toList.map (·.1) = List.range n) (hn : vs.length = n) (h1 : vs.all (·.oneCell') = true) (hsm : Nat.ble n 16777216 = true) (h0 : Nat.blt 0 n = true)
    (h : ∀ w', Blk w' w.heap.size vs e → Below w.heap.size w w' → w'.heap.size = w.heap.size + 1 → J N ((d, .slice (some ⟨w.heap.size, 0, none⟩) n n) :: env) w' (wpList P ops Q rest)) :
    J N env w (wpList P ops Q (⟨some d, .buildSlice t n parts, ty, pos, after, none⟩ :: rest)) := by
  have h0' : 0 < n := Nat.blt_eq ▸ h0
  have hsm' := Nat.le_of_ble_eq_true hsm
  obtain ⟨i, hi1, hi2, hi3, hi4⟩ := info_parts hi.eq
  refine j_ev hd (w' := w.alloc (.cells vs.toArray e)) ?_ (h _ (by unfold Blk; show (w.heap.push _)[w.heap.size]? = _; simp) ((Below.refl _ _).alloc (Nat.le_refl _) _) (by simp))
  intro ρ hρ o ho; unfold execOp; rw [ho]
  have hz := parts_zip hρ hx
  have hf := Great.fill_flat vs ((Array.range (n * i.size)).map (z.cells[· % z.cells.size]!)) (fun v hv => oneCell_cells (List.all_eq_true.1 h1 v hv)) (by simp [hn, hi3])
  have hzip : (List.range n).zip vs = (vs.zipIdx 0).map fun x => (x.2, x.1) := by
    apply List.ext_getElem
    · simp [hn]
    · intro k a b; simp
  have hrun := run_buildSlice (P := P) w t e n (parts.map fun (i, x) => (i, ρ x)) vs.toArray i z ht.eq hi1 hi2 (by rw [hi3]; omega) (by rw [hi3]; omega) (by rw [hz, hp, hzip, hi3] at *; exact hf)
  simp [hrun]
/-- An empty slice literal. -/
theorem j_lit0 {t e : TypeId} {z : Value} {size bytes : Nat} [ht : TElem P t e] [hi : TInfo P e z size bytes] (hd : Nat.blt d N = true)
    (h : ∀ w', w'.ownsRow w.heap.size e size (.slice (some ⟨w.heap.size, 0, none⟩) 0 0) 0 [] → Below w.heap.size w w' → w'.heap.size = w.heap.size + 1 → J N ((d, .slice (some ⟨w.heap.size, 0, none⟩) 0 0) :: env) w' (wpList P ops Q rest)) :
    J N env w (wpList P ops Q (⟨some d, .buildSlice t 0 #[], ty, pos, after, none⟩ :: rest)) := by
  obtain ⟨i, hi1, hi2, hi3, hi4⟩ := info_parts hi.eq
  refine j_ev hd (w' := w.alloc (.cells #[] e)) ?_ (h _ ?_ ((Below.refl _ _).alloc (Nat.le_refl _) _) (by simp))
  · intro ρ hρ o ho; unfold execOp; rw [ho]
    simp [Instr.buildSlice, run_underlying ht.eq, sizeOf, typeInfo, hi1, Instr.fill, newRow]
    congr 2
    apply Array.ext <;> simp
  · refine ⟨by simp, .inr ⟨w.heap.size, 0, #[], rfl, Nat.le_refl _, ?_, Nat.le_refl _, by unfold maxLen; omega, by simp, by simp⟩⟩
    show (w.heap.push _)[w.heap.size]? = _; simp
/-- An append of a nil slice. -/
theorem j_append_nil {s x : Operand} {t e : TypeId} {z : Value} {size bytes : Nat} [ht : TElem P t e] [hi : TInfo P e z size bytes] {v : Value} {n : Nat} {xs : List Value} {base : Nat}
    (hd : Nat.blt d N = true) (hs : evx env s = some v) (hx : evx env x = some (.slice none 0 0)) (hown : w.ownsRow base e size v n xs) (h : J N ((d, v) :: env) w (wpList P ops Q rest)) :
    J N env w (wpList P ops Q (⟨some d, .call { callee := .builtin .append, args := #[s, x], argTypes := #[t, t] }, ty, pos, after, none⟩ :: rest)) := by
  obtain ⟨i, hi1, hi2, hi3, hi4⟩ := info_parts hi.eq
  have hr := run_append_owned_none (P := P) (w := w) base t ty e i size ht.eq hi1 v n xs hown
  intro a ha
  refine wpList_plain rfl (fun K hK => ?_)
  unfold Oper.wp
  rw [BigFrame.execOp_builtin]
  have e1 := ha.ev hs
  have e2 := ha.ev hx
  simp only [List.map_toArray, List.map_cons, List.map_nil, e1, e2, BigFrame.builtin_append, Sem.run_bind, hr, Result.andThen_ok, Sem.run_pure]
  exact hK _ _ (h _ (ha.put hd v))
theorem ov_min {x y : Operand} {ts : Array TypeId} {k k' : IntKind} {a b : Int} (hx : evx env x = some (.int k a)) (hy : evx env y = some (.int k' b)) : OV P env (.call { callee := .builtin .min, args := #[x, y], argTypes := ts }) w (.int k (if b < a then b else a)) := by
  intro ρ hρ o ho
  cases o
  simp only at ho
  subst ho
  rw [BigFrame.execOp_builtin]
  simp [hρ hx, hρ hy, BigFrame.builtin_min, run_min_int2]
theorem ov_min_l {x y : Operand} {ts : Array TypeId} {k k' : IntKind} {a b : Int} (hx : evx env x = some (.int k a)) (hy : evx env y = some (.int k' b)) (h : a ≤ b) : OV P env (.call { callee := .builtin .min, args := #[x, y], argTypes := ts }) w (.int k a) := by
  have := ov_min (P := P) (w := w) (ts := ts) hx hy; rw [if_neg (by omega)] at this; exact this
theorem ov_min_r {x y : Operand} {ts : Array TypeId} {k k' : IntKind} {a b : Int} (hx : evx env x = some (.int k a)) (hy : evx env y = some (.int k' b)) (h : b < a) : OV P env (.call { callee := .builtin .min, args := #[x, y], argTypes := ts }) w (.int k b) := by
  have := ov_min (P := P) (w := w) (ts := ts) hx hy; rw [if_pos h] at this; exact this
theorem ov_sliceto {x hi : Operand} {t e : TypeId} {a : Option Addr} {len cap : Nat} {k : IntKind} {j : Int} [ht : TElem P t e] {sz : Nat} [hsz : TSize P e sz] (hx : evx env x = some (.slice a len cap)) (hh : evx env hi = some (.int k j)) (m : Nat) (hj : j = m) (h2 : m ≤ cap) :
    OV P env (.slice t x none (some hi) none) w (.slice a m cap) := by
  intro ρ hρ o ho; unfold execOp; rw [ho]
  subst hj
  have hu : P.underlying t = some (.slice (P.elem t)) := by rw [elem_of ht.eq]; exact ht.eq
  have := run_slice_h (P := P) (w := w) t a len cap hu k m (by omega) (by omega)
  simp only [hρ hx, Option.map_some, Option.map_none, hρ hh, run_sliceAt_slice w t _ _ _ _ hu, Sem.run_bind, this, Result.andThen_ok, elem_of ht.eq, hsz.run, Sem.run_pure, Int.toNat_natCast]
  unfold sliced
  simp only [Nat.zero_mul, Nat.sub_zero]
  have ha : a.map (fun x => x.add 0) = a := by cases a with
    | none => rfl
    | some b => simp [Addr.add]
  rw [ha]; simp
theorem ov_slnil {x y : Operand} {t t' e : TypeId} {a : Option Addr} {len cap : Nat} [ht : TElem P t e] (hx : evx env x = some (.slice a len cap)) (hy : evx env y = some (.slice none 0 0)) : OV P env (.binOp .eql t x y t') w (.bool a.isNone) := by
  intro ρ hρ o ho; unfold execOp; rw [ho]
  have := Lib.run_eql_slice_nil (P := P) w t e a len cap 0 0 ht.eq
  simp only [hρ hx, hρ hy, eqGuard_at_slice, Sem.run_bind, Sem.run_pure, Result.andThen_ok, this]
theorem ov_quo {x y : Operand} {t t' : TypeId} {m n : Nat} (hx : evx env x = some (.int .i64 ((m : Nat) : Int))) (hy : evx env y = some (.int .i64 ((n : Nat) : Int))) (h : n ≠ 0) (hm : m ≤ 9223372036854775807) : OV P env (.binOp .quo t x y t') w (.int .i64 ((m / n : Nat) : Int)) := by
  have := ov_quow (P := P) (w := w) (t := t) (t' := t') hx hy (by omega)
  have e : ((m : Int).tdiv n) = ((m / n : Nat) : Int) := by rw [Int.ofNat_tdiv]
  rw [e] at this
  have hle : m / n ≤ m := Nat.div_le_self _ _
  generalize m / n = q at this hle ⊢
  rw [show IntKind.wrap .i64 ((q : Nat) : Int) = ((q : Nat) : Int) from IntWalk.i64_in _ ⟨by omega, by omega⟩] at this
  exact this
end
end Go.Proofs.YtddiecdoaggaaaaGreatDoor
