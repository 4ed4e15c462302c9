/- The engine: pieces of slices, and what they hold. No program. -/
import Derived.Test.YtddiecdoaggaaaaDoorRet
import Derived.Test.YtddiecdoaggaaaaDoorStrs
namespace Go.Proofs.YtddiecdoaggaaaaDoor
open Go.RowKit

/-- The piece from a to b of a slice. -/
def pieceV (ea : Option Addr) (a b cap sz : Nat) : Value := .slice (if cap = a then ea else ea.map (·.add (a * sz))) (b - a) (cap - a)
section
variable {P : Program} {N : Nat} {env : Env} {r w : World} {O : List Own} {Q : Exit → Act → World → Prop} {ops : Array Oper} {rest : List Oper} {d : Nat} {ty : TypeId} {pos : String} {after : Array Edge} {v : Value}
theorem ov_sliceto' {x hi : Operand} {t e : TypeId} {a : Option Addr} {len cap : Nat} {k : IntKind} {j : Int} [ht : TElem P t e] {sz : Nat} [hsz : TSize P e sz] (hx : evx env x = some (.slice a len cap)) (hh : evx env hi = some (.int k j)) (m : Nat) (hj : j = m) (h2 : m ≤ cap) :
    OV P env (.slice t x none (some hi) none) w (pieceV a 0 m cap sz) := by
  intro ρ hρ o ho; unfold execOp; rw [ho]
  subst hj
  have hu : P.underlying t = some (.slice (P.elem t)) := by rw [elem_of ht.eq]; exact ht.eq
  have := run_slice_h (P := P) (w := w) t a len cap hu k m (by omega) (by omega)
  simp only [hρ hx, Option.map_some, Option.map_none, hρ hh, run_sliceAt_slice w t _ _ _ _ hu, Sem.run_bind, this, Result.andThen_ok, elem_of ht.eq, hsz.run, Sem.run_pure, Int.toNat_natCast]
  rfl
theorem ov_slicefrom {x lo : Operand} {t e : TypeId} {a : Option Addr} {len cap : Nat} {k : IntKind} {j : Int} [ht : TElem P t e] {sz : Nat} [hsz : TSize P e sz] (hx : evx env x = some (.slice a len cap)) (hh : evx env lo = some (.int k j)) (m : Nat) (hj : j = m) (h2 : m ≤ len) :
    OV P env (.slice t x (some lo) none none) w (pieceV a m len cap sz) := by
  intro ρ hρ o ho; unfold execOp; rw [ho]
  subst hj
  have hu : P.underlying t = some (.slice (P.elem t)) := by rw [elem_of ht.eq]; exact ht.eq
  have := run_slice_l (P := P) (w := w) t a len cap hu k m (by omega) (by omega)
  simp only [hρ hx, Option.map_some, Option.map_none, hρ hh, run_sliceAt_slice w t _ _ _ _ hu, Sem.run_bind, this, Result.andThen_ok, elem_of ht.eq, hsz.run, Sem.run_pure, Int.toNat_natCast]
  rfl
theorem ov_slicelh {x lo hi : Operand} {t e : TypeId} {a : Option Addr} {len cap : Nat} {k k' : IntKind} {j i : Int} [ht : TElem P t e] {sz : Nat} [hsz : TSize P e sz] (hx : evx env x = some (.slice a len cap)) (hl : evx env lo = some (.int k j)) (hh : evx env hi = some (.int k' i)) (m n : Nat) (hj : j = m) (hi' : i = n) (h1 : m ≤ n) (h2 : n ≤ cap) :
    OV P env (.slice t x (some lo) (some hi) none) w (pieceV a m n cap sz) := by
  intro ρ hρ o ho; unfold execOp; rw [ho]
  subst hj hi'
  have hu : P.underlying t = some (.slice (P.elem t)) := by rw [elem_of ht.eq]; exact ht.eq
  have := run_slice_lh (P := P) (w := w) t a len cap hu k k' m n (by omega) (by omega) (by omega)
  simp only [hρ hx, Option.map_some, Option.map_none, hρ hl, hρ hh, run_sliceAt_slice w t _ _ _ _ hu, Sem.run_bind, this, Result.andThen_ok, elem_of ht.eq, hsz.run, Sem.run_pure, Int.toNat_natCast]
  rfl
/-- The address of an element, where it is known that there is a row. -/
theorem ov_indexAddrE {x y : Operand} {t e : TypeId} {ea : Option Addr} {len cap b o : Nat} {k : IntKind} {i : Int} {sz : Nat} [ht : TElem P t e] [hsz : TSize P e sz] (hea : ea = some ⟨b, o, none⟩) (hx : evx env x = some (.slice ea len cap)) (hy : evx env y = some (.int k i)) (j : Nat) (hj : i = j) (hlt : j < len) :
    OV P env (.indexAddr t x y) w (.pointer (some ⟨b, o + j * sz, none⟩)) := by
  subst hea; exact ov_indexAddr hx hy j hj hlt
theorem ov_indexAddrE1 {x y : Operand} {t e : TypeId} {ea : Option Addr} {len cap b o : Nat} {k : IntKind} {i : Int} [ht : TElem P t e] [hsz : TSize P e 1] (hea : ea = some ⟨b, o, none⟩) (hx : evx env x = some (.slice ea len cap)) (hy : evx env y = some (.int k i)) (j : Nat) (hj : i = j) (hlt : j < len) :
    OV P env (.indexAddr t x y) w (.pointer (some ⟨b, o + j, none⟩)) := by
  subst hea; exact ov_indexAddr1o hx hy j hj hlt
end
/-- The slice ea holds n elements of sz cells each: all its cells. -/
def RowIs (w : World) (ea : Option Addr) (n cap sz : Nat) (cs : List Value) : Prop :=
  n ≤ cap ∧ (ea = none → cap = 0) ∧ cs.length = n * sz ∧ ∀ j u, cs[j]? = some u → ∃ ad, ea = some ad ∧ w.cell? (ad.add j) = some u
theorem RowIs.ext {w w' : World} {ea : Option Addr} {n cap sz : Nat} {cs : List Value} (h : RowIs w ea n cap sz cs) (hb : Below w.heap.size w w') : RowIs w' ea n cap sz cs := by
  obtain ⟨h1, h2, h3, h4⟩ := h
  refine ⟨h1, h2, h3, fun j u hj => ?_⟩
  obtain ⟨ad, h5, h6⟩ := h4 j u hj
  exact ⟨ad, h5, cell_ext hb h6⟩
theorem rowIs_own {w : World} {base n cap sz : Nat} {e : TypeId} {ea : Option Addr} {cs : List Value} (h : w.ownsRow base e sz (.slice ea n cap) n cs) : RowIs w ea n cap sz cs := by
  have h' := h
  obtain ⟨h1, h2⟩ := h
  rcases h2 with ⟨h3, h4⟩ | ⟨g, c, cur, h3, _, _, h4, _⟩
  · injection h3 with e1 e2 e3
    subst e1 e3
    refine ⟨by omega, fun _ => rfl, h1, fun j u hj => ?_⟩
    have : cs = [] := List.eq_nil_of_length_eq_zero (by rw [h1, h4]; simp)
    subst this; cases hj
  · injection h3 with e1 e2 e3
    subst e1 e3
    exact ⟨by omega, (fun h => by cases h), h1, fun j u hj => ⟨_, rfl, h'.cells (g := g) rfl j u hj⟩⟩
theorem k_rowsliceC {N : Nat} {env : Env} {r : World} {O : List Own} {F : Act → World → Prop} (i : Nat) {f : Bool} {v : Value} {n : Nat} {xs : List Value} {e : TypeId} {sz : Nat} (hO : nthO O i = some (row f v n xs e sz)) (h : ∀ ea cap, v = .slice ea n cap → n ≤ cap → (ea = none → cap = 0) → K N env r O F) : K N env r O F := by
  intro w hw
  have h1 := hw.row i hO
  obtain ⟨ea, cap, hv⟩ := own_slice h1
  have h2 := rowIs_own (hv ▸ h1)
  exact h ea cap hv h2.1 h2.2.1 w hw
theorem rowIs_strs {w : World} {ea : Option Addr} {n cap : Nat} {l : List ByteArray} (h : StrsAt w (.slice ea n cap) l) (hn : ea = none → cap = 0) : RowIs w ea n cap 1 (l.map Value.string) := by
  obtain ⟨ea', cap', he, hl, hc⟩ := h
  injection he with e1 e2 e3
  subst e1 e2 e3
  refine ⟨hl.1, hn, by simp, fun j u hj => ?_⟩
  rw [List.getElem?_map] at hj
  cases hs : l[j]? with
  | none => rw [hs] at hj; cases hj
  | some s =>
    rw [hs] at hj
    injection hj with hj
    subst hj
    obtain ⟨b, o, h1, h2⟩ := hc j s hs
    exact ⟨_, h1, by rw [addr_add]; exact h2⟩
theorem addr_add_add (a : Addr) (i j : Nat) : (a.add i).add j = a.add (i + j) := by
  obtain ⟨b, o, s⟩ := a
  unfold Addr.add
  by_cases hi : i = 0
  · subst hi; simp
  · by_cases hj : j = 0
    · subst hj; simp [hi]
    · rw [if_neg hi, if_neg hj, if_neg (by omega)]; simp [Nat.add_assoc]
/-- What a piece holds. -/
theorem RowIs.piece {w : World} {ea : Option Addr} {n cap sz : Nat} {cs : List Value} (h : RowIs w ea n cap sz cs) (a b : Nat) (hab : a ≤ b) (hb : b ≤ n) : RowNow w (pieceV ea a b cap sz) (b - a) ((cs.drop (a * sz)).take ((b - a) * sz)) := by
  obtain ⟨h1, h2, h3, h4⟩ := h
  unfold pieceV
  cases ea with
  | none =>
    have := h2 rfl
    have ha : a = 0 := by omega
    have hb0 : b = 0 := by omega
    subst ha hb0 this
    exact .inl ⟨rfl, rfl, by simp⟩
  | some ad =>
    by_cases hc : cap = a
    · subst hc
      have : b = cap := by omega
      subst this
      rw [if_pos rfl, Nat.sub_self]
      exact .inr ⟨ad, 0, rfl, fun j u hj => by simp at hj⟩
    · rw [if_neg hc]
      refine .inr ⟨ad.add (a * sz), cap - a, rfl, fun j u hj => ?_⟩
      rw [List.getElem?_take] at hj
      split at hj
      · rw [List.getElem?_drop] at hj
        obtain ⟨ad', e, h5⟩ := h4 _ _ hj
        injection e with e
        subst e
        rw [addr_add_add]; exact h5
      · cases hj
theorem RowIs.take {w : World} {ea : Option Addr} {n cap sz : Nat} {cs : List Value} (h : RowIs w ea n cap sz cs) (b : Nat) (hb : b ≤ n) : RowNow w (pieceV ea 0 b cap sz) b (cs.take (b * sz)) := by
  have := h.piece 0 b (Nat.zero_le _) hb
  simpa using this
theorem RowIs.drop {w : World} {ea : Option Addr} {n cap sz : Nat} {cs : List Value} (h : RowIs w ea n cap sz cs) (a : Nat) (ha : a ≤ n) : RowNow w (pieceV ea a n cap sz) (n - a) (cs.drop (a * sz)) := by
  have h' := h.piece a n ha (Nat.le_refl _)
  rwa [List.take_of_length_le] at h'
  rw [List.length_drop, h.2.2.1, ← Nat.sub_mul]
  exact Nat.le_refl _
/-- An element of sz cells. -/
theorem RowIs.cell {w : World} {b o n cap sz : Nat} {cs : List Value} (h : RowIs w (some ⟨b, o, none⟩) n cap sz cs) {j : Nat} {u : Value} (hj : cs[j]? = some u) : w.cell? ⟨b, o + j, none⟩ = some u := by
  obtain ⟨ad, e, h1⟩ := h.2.2.2 j u hj
  injection e with e
  subst e
  rwa [addr_add] at h1
end Go.Proofs.YtddiecdoaggaaaaDoor
