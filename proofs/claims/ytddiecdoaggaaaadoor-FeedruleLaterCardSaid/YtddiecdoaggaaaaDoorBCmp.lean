/- Comparisons of bytes: the order of byte lists, the model's entry bytealg.Compare, calls of entries. No program. -/
import Derived.Test.YtddiecdoaggaaaaDoorRet
import Derived.Lib.Bytealg
import Derived.Laws.Externs
import Derived.Shelf.SlSortCmp.NoneTotal
namespace Go.Proofs.YtddiecdoaggaaaaDoor
open Go Go.RowKit Go.Sort

/-! The order of byte lists. -/
theorem cb_lt : ∀ {x y : List UInt8}, Lib.compareBytes x y < 0 ↔ x < y
  | [], [] => by simp [Lib.compareBytes]
  | [], b :: y => by simp [Lib.compareBytes]
  | a :: x, [] => by simp [Lib.compareBytes]
  | a :: x, b :: y => by
    rw [Lib.compareBytes, List.cons_lt_cons_iff]
    by_cases h1 : a < b
    · rw [if_pos h1]; exact ⟨fun _ => .inl h1, fun _ => by omega⟩
    · rw [if_neg h1]
      by_cases h2 : b < a
      · rw [if_pos h2]
        refine ⟨fun h => by omega, ?_⟩
        rintro (h | ⟨h, _⟩)
        · exact absurd h h1
        · rw [h] at h2; exact absurd h2 (UInt8.lt_irrefl _)
      · rw [if_neg h2, cb_lt]
        have : a = b := UInt8.le_antisymm (UInt8.not_lt.1 h2) (UInt8.not_lt.1 h1)
        exact ⟨fun h => .inr ⟨this, h⟩, fun h => h.elim (fun h => absurd h h1) (·.2)⟩
theorem cb_swap : ∀ x y : List UInt8, Lib.compareBytes y x = - Lib.compareBytes x y
  | [], [] => rfl
  | [], _ :: _ => rfl
  | _ :: _, [] => rfl
  | a :: x, b :: y => by
    rw [Lib.compareBytes, Lib.compareBytes]
    by_cases h1 : a < b
    · have h2 : ¬ b < a := UInt8.not_lt.2 (UInt8.le_of_lt h1)
      simp [h1, h2]
    · by_cases h2 : b < a
      · simp [h1, h2]
      · simp [h1, h2, cb_swap x y]
theorem cb_zero {x y : List UInt8} : Lib.compareBytes x y = 0 ↔ x = y := by
  constructor
  · intro h
    have h1 : ¬ x < y := fun h' => by have := cb_lt.2 h'; omega
    have h2 : ¬ y < x := fun h' => by have := cb_lt.2 h'; have := cb_swap x y; omega
    exact List.le_antisymm (List.not_lt.1 h2) (List.not_lt.1 h1)
  · rintro rfl
    have h1 : ¬ Lib.compareBytes x x < 0 := fun h => List.lt_irrefl x (cb_lt.1 h)
    have := cb_swap x x
    omega
theorem cb_cases : ∀ x y : List UInt8, Lib.compareBytes x y = -1 ∨ Lib.compareBytes x y = 0 ∨ Lib.compareBytes x y = 1
  | [], [] => .inr (.inl rfl)
  | [], _ :: _ => .inl rfl
  | _ :: _, [] => .inr (.inr rfl)
  | a :: x, b :: y => by
    rw [Lib.compareBytes]
    split
    · exact .inl rfl
    · split
      · exact .inr (.inr rfl)
      · exact cb_cases x y
theorem bytesLess_ltL (x y : List UInt8) : Op.bytesLess x y = true ↔ x < y := by rw [bytesLess_eq]; exact decide_eq_true_iff
/-- A strict total order is a strict weak order. -/
theorem swo_total {α : Type} {cf : α → α → Int} (irr : ∀ x, ¬ cf x x < 0) (tr : ∀ x y z, cf x y < 0 → cf y z < 0 → cf x z < 0) (tot : ∀ x y, ¬ cf x y < 0 → ¬ cf y x < 0 → x = y) : SWO (ltOf cf) := by
  have e : ∀ x y, ltOf cf x y = true ↔ cf x y < 0 := fun x y => by unfold ltOf; exact decide_eq_true_iff
  have e2 : ∀ x y, ltOf cf x y = false ↔ ¬ cf x y < 0 := fun x y => by rw [← Bool.not_eq_true, e]
  refine ⟨fun x => (e2 x x).2 (irr x), fun x y z h1 h2 => (e x z).2 (tr x y z ((e x y).1 h1) ((e y z).1 h2)), fun x y z h1 h2 => (e2 x z).2 fun h3 => ?_⟩
  rw [e2] at h1 h2
  by_cases h4 : cf y x < 0
  · exact h2 (tr y x z h4 h3)
  · have := tot x y h1 h4
    subst this
    exact h2 h3
theorem total_of {α : Type} {cf : α → α → Int} (tot : ∀ x y, ¬ cf x y < 0 → ¬ cf y x < 0 → x = y) : ∀ x y, (ltOf cf) x y = false → (ltOf cf) y x = false → x = y := by
  intro x y h1 h2
  unfold ltOf at h1 h2
  exact tot x y (of_decide_eq_false h1) (of_decide_eq_false h2)
/-- What is sorted. -/
theorem sorted_merge {α : Type} {cf : α → α → Int} (hO : SWO (ltOf cf)) (d : List α) : (d.mergeSort fun x y => !(ltOf cf) y x).Pairwise fun x y => ¬ cf y x < 0 := by
  have hp := List.pairwise_mergeSort (le := fun x y => !(ltOf cf) y x) (fun a b c h1 h2 => by
    simp only [Bool.not_eq_true'] at *
    exact hO.ntrans c b a h2 h1) (fun a b => by
    simp only [Bool.or_eq_true, Bool.not_eq_true']
    cases h : ltOf cf b a with
    | false => exact .inl rfl
    | true =>
      right
      cases h2 : ltOf cf a b with
      | false => rfl
      | true =>
        have := hO.trans a b a h2 h
        rw [hO.irrefl] at this; cases this) d
  refine hp.imp fun {a b} h => ?_
  simp only [Bool.not_eq_true'] at h
  unfold ltOf at h
  exact of_decide_eq_false h
/-! Bytes in cells. -/
def u8C (l : List UInt8) : List Value := l.map fun c => Value.int .u8 c.toNat
theorem run_loadBytesU {P : Program} {w : World} : ∀ (xs : List UInt8) (a : Addr) (acc : ByteArray), (∀ j u, (u8C xs)[j]? = some u → w.cell? (a.add j) = some u) →
    (Extern.Bytes.loadBytes a xs.length acc).run P w = .ok ⟨(acc.data.toList ++ xs).toArray⟩ w
  | [], a, acc, _ => by
    simp only [List.length_nil, Extern.Bytes.loadBytes, Sem.run_pure, List.append_nil, Array.toArray_toList]
  | x :: xs, a, acc, h => by
    have h0 : w.cell? a = some (.int .u8 x.toNat) := by
      have := h 0 _ rfl
      rwa [show a.add 0 = a by simp [Addr.add]] at this
    have ih := run_loadBytesU (P := P) (w := w) xs (a.add 1) (acc.push x) (fun j u hj => by
      have := h (j + 1) u (by simpa [u8C] using hj)
      rw [show a.add (j + 1) = (a.add 1).add j by
        obtain ⟨b, o, s⟩ := a
        unfold Addr.add
        by_cases hj0 : j = 0
        · subst hj0; simp
        · simp [hj0]; omega] at this
      exact this)
    rw [List.length_cons, Extern.Bytes.loadBytes]
    have e1 : (load a).run P w = .ok (.int .u8 x.toNat) w := by simp [load, Sem.run, h0]
    rw [Sem.run_bind, e1]
    simp only [Result.andThen_ok]
    have e2 : ((x.toNat : Int)).toNat.toUInt8 = x := by simp
    rw [e2, ih]
    congr 2
    simp [ByteArray.push]
/-- The model's entry on two slices of bytes. -/
theorem run_compareSlices {P : Program} {w : World} {a b : Addr} {x y : List UInt8} {c d : Nat} (ha : ∀ j u, (u8C x)[j]? = some u → w.cell? (a.add j) = some u) (hb : ∀ j u, (u8C y)[j]? = some u → w.cell? (b.add j) = some u) :
    (Extern.BytealgCompare.compare #[.slice (some a) x.length c, .slice (some b) y.length d]).run P w = .ok (.int .i64 (Lib.compareBytes x y)) w := by
  change Sem.run P (do pure (goInt (Extern.BytealgCompare.cmp (← Extern.Bytes.bytesOf (.slice (some a) x.length c)) (← Extern.Bytes.bytesOf (.slice (some b) y.length d))))) w = _
  simp only [Extern.Bytes.bytesOf, Sem.run_bind, run_loadBytesU (P := P) x a .empty ha, run_loadBytesU (P := P) y b .empty hb, Result.andThen_ok, Sem.run_pure]
  rw [Lib.cmp_eq]
  rfl
section
variable {P : Program} {N : Nat} {env : Env} {r w : World} {O : List Own} {Q : Exit → Act → World → Prop} {ops : Array Oper} {rest : List Oper} {d : Nat} {ty : TypeId} {pos : String} {after : Array Edge} {v : Value}
/-- A call of an entry of the model. -/
theorem ov_extern {f : FuncId} {fn : Func} {e : Array Value → Sem Value} {xs : Array Operand} {ats : Array TypeId} {args : List Value} (hf : P.funcs[f]? = some fn) (hname : (fn.name == "runtime.NumGoroutine") = false) (hb : fn.body.isNone = true) (hn : Extern.findNext fn = none) (he : Extern.find fn = some e)
    (hx : evs env xs.toList = some args) (hr : (e args.toArray).run P w = .ok v w) : OV P env (.call { callee := .value (.func f), args := xs, argTypes := ats }) w v := by
  intro ρ hρ o ho
  obtain ⟨dst, op, ty, pos, after, guard⟩ := o
  dsimp only at ho
  subst ho
  have hm : xs.map ρ = args.toArray := evs_map hρ hx
  unfold execOp
  simp only [resolve, hm, Sem.run_bind]
  rw [hρ (x := .func f) rfl]
  simp [Deferred.ofValue, invoke, run_callFunc_extern hf hname hb hn he, hr]
end
end Go.Proofs.YtddiecdoaggaaaaDoor
