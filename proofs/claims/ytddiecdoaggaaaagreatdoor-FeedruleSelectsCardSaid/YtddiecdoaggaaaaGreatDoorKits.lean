/- Comparisons of bytes: the order of byte lists, the model's entry bytealg.Compare, calls of entries. No program. slices.SortFunc over rows of structs, and over rows of one cell, under comparisons that are known by contracts of my form. No program. The engine: pieces of slices, and what they hold. No program. The engine: parts of memory joined into one, and parts of which less is kept in mind. No program. Identities of 32 bytes: comparisons, searches. The engine in regions that draw their order: a tree of the orders that may come. No program. The walk of a region whose order is a tree. No program. -/
import Derived.Test.YtddiecdoaggaaaaGreatDoorRet
import Derived.Lib.Bytealg
import Derived.Laws.Externs
import Derived.Shelf.SlSortCmp.NoneTotal
import Derived.Test.YtddiecdoaggaaaaGreatDoorDrawn
import Derived.Lib.OwnBridge
import Derived.Test.YtddiecdoaggaaaaGreatDoorStrs
import Derived.Test.YtddiecdoaggaaaaGreatDoorWalkB
import Derived.Test.YtddiecdoaggaaaaGreatDoorTypes2
import Derived.Test.YtddiecdoaggaaaaGreatDoorBase
import Derived.Test.YtddiecdoaggaaaaGreatDoorShelf
import Derived.Stop.BytesEq
import Derived.Test.YtddiecdoaggaaaaGreatDoorKG
namespace Go.Proofs.YtddiecdoaggaaaaGreatDoor
open Go Go.RowKit Go.Sort

/-! The order of byte lists. -/
theorem cb_lt : ∀ {x y : List UInt8}, Lib.compareBytes x y < 0 ↔ x < y
  | [], [] => by simp [Lib.compareBytes]
  | [], b :: y => by simp [Lib.compareBytes]
  | a :: x, [] => by simp [Lib.compareBytes]
  | a :: x, b :: y => by
    rw [Lib.compareBytes, List.cons_lt_cons_iff]
    by_cases h1 : a < b
    · rw [if_pos h1]; exact ⟨fun _ => .inl h1, fun _ => by omega⟩
    · rw [if_neg h1]
      by_cases h2 : b < a
      · rw [if_pos h2]
        refine ⟨fun h => by omega, ?_⟩
        rintro (h | ⟨h, _⟩)
        · exact absurd h h1
        · rw [h] at h2; exact absurd h2 (UInt8.lt_irrefl _)
      · rw [if_neg h2, cb_lt]
        have : a = b := UInt8.le_antisymm (UInt8.not_lt.1 h2) (UInt8.not_lt.1 h1)
        exact ⟨fun h => .inr ⟨this, h⟩, fun h => h.elim (fun h => absurd h h1) (·.2)⟩
theorem cb_swap : ∀ x y : List UInt8, Lib.compareBytes y x = - Lib.compareBytes x y
  | [], [] => rfl
  | [], _ :: _ => rfl
  | _ :: _, [] => rfl
  | a :: x, b :: y => by
    rw [Lib.compareBytes, Lib.compareBytes]
    by_cases h1 : a < b
    · have h2 : ¬ b < a := UInt8.not_lt.2 (UInt8.le_of_lt h1)
      simp [h1, h2]
    · by_cases h2 : b < a
      · simp [h1, h2]
      · simp [h1, h2, cb_swap x y]
theorem cb_zero {x y : List UInt8} : Lib.compareBytes x y = 0 ↔ x = y := by
  constructor
  · intro h
    have h1 : ¬ x < y := fun h' => by have := cb_lt.2 h'; omega
    have h2 : ¬ y < x := fun h' => by have := cb_lt.2 h'; have := cb_swap x y; omega
    exact List.le_antisymm (List.not_lt.1 h2) (List.not_lt.1 h1)
  · rintro rfl
    have h1 : ¬ Lib.compareBytes x x < 0 := fun h => List.lt_irrefl x (cb_lt.1 h)
    have := cb_swap x x
    omega
theorem cb_cases : ∀ x y : List UInt8, Lib.compareBytes x y = -1 ∨ Lib.compareBytes x y = 0 ∨ Lib.compareBytes x y = 1
  | [], [] => .inr (.inl rfl)
  | [], _ :: _ => .inl rfl
  | _ :: _, [] => .inr (.inr rfl)
  | a :: x, b :: y => by
    rw [Lib.compareBytes]
    split
    · exact .inl rfl
    · split
      · exact .inr (.inr rfl)
      · exact cb_cases x y
theorem bytesLess_ltL (x y : List UInt8) : Op.bytesLess x y = true ↔ x < y := by rw [bytesLess_eq]; exact decide_eq_true_iff
/-- A strict total order is a strict weak order. -/
theorem swo_total {α : Type} {cf : α → α → Int} (irr : ∀ x, ¬ cf x x < 0) (tr : ∀ x y z, cf x y < 0 → cf y z < 0 → cf x z < 0) (tot : ∀ x y, ¬ cf x y < 0 → ¬ cf y x < 0 → x = y) : SWO (ltOf cf) := by
  have e : ∀ x y, ltOf cf x y = true ↔ cf x y < 0 := fun x y => by unfold ltOf; exact decide_eq_true_iff
  have e2 : ∀ x y, ltOf cf x y = false ↔ ¬ cf x y < 0 := fun x y => by rw [← Bool.not_eq_true, e]
  refine ⟨fun x => (e2 x x).2 (irr x), fun x y z h1 h2 => (e x z).2 (tr x y z ((e x y).1 h1) ((e y z).1 h2)), fun x y z h1 h2 => (e2 x z).2 fun h3 => ?_⟩
  rw [e2] at h1 h2
  by_cases h4 : cf y x < 0
  · exact h2 (tr y x z h4 h3)
  · have := tot x y h1 h4
    subst this
    exact h2 h3
theorem total_of {α : Type} {cf : α → α → Int} (tot : ∀ x y, ¬ cf x y < 0 → ¬ cf y x < 0 → x = y) : ∀ x y, (ltOf cf) x y = false → (ltOf cf) y x = false → x = y := by
  intro x y h1 h2
  unfold ltOf at h1 h2
  exact tot x y (of_decide_eq_false h1) (of_decide_eq_false h2)
/-- What is sorted. -/
theorem sorted_merge {α : Type} {cf : α → α → Int} (hO : SWO (ltOf cf)) (d : List α) : (d.mergeSort fun x y => !(ltOf cf) y x).Pairwise fun x y => ¬ cf y x < 0 := by
  have hp := List.pairwise_mergeSort (le := fun x y => !(ltOf cf) y x) (fun a b c h1 h2 => by
    simp only [Bool.not_eq_true'] at *
    exact hO.ntrans c b a h2 h1) (fun a b => by
    simp only [Bool.or_eq_true, Bool.not_eq_true']
    cases h : ltOf cf b a with
    | false => exact .inl rfl
    | true =>
      right
      cases h2 : ltOf cf a b with
      | false => rfl
      | true =>
        have := hO.trans a b a h2 h
        rw [hO.irrefl] at this; cases this) d
  refine hp.imp fun {a b} h => ?_
  simp only [Bool.not_eq_true'] at h
  unfold ltOf at h
  exact of_decide_eq_false h
/-! Bytes in cells. -/
def u8C (l : List UInt8) : List Value := l.map fun c => Value.int .u8 c.toNat
theorem run_loadBytesU {P : Program} {w : World} : ∀ (xs : List UInt8) (a : Addr) (acc : ByteArray), (∀ j u, (u8C xs)[j]? = some u → w.cell? (a.add j) = some u) →
    (Extern.Bytes.loadBytes a xs.length acc).run P w = .ok ⟨(acc.data.toList ++ xs).toArray⟩ w
  | [], a, acc, _ => by
    simp only [List.length_nil, Extern.Bytes.loadBytes, Sem.run_pure, List.append_nil, Array.toArray_toList]
  | x :: xs, a, acc, h => by
    have h0 : w.cell? a = some (.int .u8 x.toNat) := by
      have := h 0 _ rfl
      rwa [show a.add 0 = a by simp [Addr.add]] at this
    have ih := run_loadBytesU (P := P) (w := w) xs (a.add 1) (acc.push x) (fun j u hj => by
      have := h (j + 1) u (by simpa [u8C] using hj)
      rw [show a.add (j + 1) = (a.add 1).add j by
        obtain ⟨b, o, s⟩ := a
        unfold Addr.add
        by_cases hj0 : j = 0
        · subst hj0; simp
        · simp [hj0]; omega] at this
      exact this)
    rw [List.length_cons, Extern.Bytes.loadBytes]
    have e1 : (load a).run P w = .ok (.int .u8 x.toNat) w := by simp [load, Sem.run, h0]
    rw [Sem.run_bind, e1]
    simp only [Result.andThen_ok]
    have e2 : ((x.toNat : Int)).toNat.toUInt8 = x := by simp
    rw [e2, ih]
    congr 2
    simp [ByteArray.push]
/-- The model's entry on two slices of bytes. -/
theorem run_compareSlices {P : Program} {w : World} {a b : Addr} {x y : List UInt8} {c d : Nat} (ha : ∀ j u, (u8C x)[j]? = some u → w.cell? (a.add j) = some u) (hb : ∀ j u, (u8C y)[j]? = some u → w.cell? (b.add j) = some u) :
    (Extern.BytealgCompare.compare #[.slice (some a) x.length c, .slice (some b) y.length d]).run P w = .ok (.int .i64 (Lib.compareBytes x y)) w := by
  change Sem.run P (do pure (goInt (Extern.BytealgCompare.cmp (← Extern.Bytes.bytesOf (.slice (some a) x.length c)) (← Extern.Bytes.bytesOf (.slice (some b) y.length d))))) w = _
  simp only [Extern.Bytes.bytesOf, Sem.run_bind, run_loadBytesU (P := P) x a .empty ha, run_loadBytesU (P := P) y b .empty hb, Result.andThen_ok, Sem.run_pure]
  rw [Lib.cmp_eq]
  rfl
section
variable {P : Program} {N : Nat} {env : Env} {r w : World} {O : List Own} {Q : Exit → Act → World → Prop} {ops : Array Oper} {rest : List Oper} {d : Nat} {ty : TypeId} {pos : String} {after : Array Edge} {v : Value}
/-- A call of an entry of the model. -/
theorem ov_extern {f : FuncId} {fn : Func} {e : Array Value → Sem Value} {xs : Array Operand} {ats : Array TypeId} {args : List Value} (hf : P.funcs[f]? = some fn) (hname : (fn.name == "runtime.NumGoroutine") = false) (hb : fn.body.isNone = true) (hn : Extern.findNext fn = none) (he : Extern.find fn = some e)
    (hx : evs env xs.toList = some args) (hr : (e args.toArray).run P w = .ok v w) : OV P env (.call { callee := .value (.func f), args := xs, argTypes := ats }) w v := by
  intro ρ hρ o ho
  obtain ⟨dst, op, ty, pos, after, guard⟩ := o
  dsimp only at ho
  subst ho
  have hm : xs.map ρ = args.toArray := evs_map hρ hx
  unfold execOp
  simp only [resolve, hm, Sem.run_bind]
  rw [hρ (x := .func f) rfl]
  simp [Deferred.ofValue, invoke, run_callFunc_extern hf hname hb hn he, hr]
end
end Go.Proofs.YtddiecdoaggaaaaGreatDoor
namespace Go.Proofs.YtddiecdoaggaaaaGreatDoor
open Go Go.RowKit Go.Sort Go.Shelf

/-! Rows of structs, cell by cell. -/
theorem get_flat {α : Type} {enc : α → List Value} {k : Nat} (hk0 : 0 < k) (hk : ∀ x, (enc x).length = k) : ∀ (d : List α) (t : Nat), t < d.length * k → (d.flatMap enc)[t]? = (d[t / k]?).bind fun x => (enc x)[t % k]?
  | [], t, h => by simp at h
  | x :: d, t, h => by
    rw [List.flatMap_cons]
    by_cases ht : t < k
    · rw [List.getElem?_append_left (by rw [hk]; exact ht), Nat.div_eq_of_lt ht, Nat.mod_eq_of_lt ht]; rfl
    · have h1 : t / k = (t - k) / k + 1 := Nat.div_eq_sub_div hk0 (by omega)
      have h2 : t % k = (t - k) % k := Nat.mod_eq_sub_mod (by omega)
      rw [List.getElem?_append_right (by rw [hk]; omega), hk, get_flat hk0 hk d (t - k) (by rw [List.length_cons, Nat.add_mul] at h; omega), h1, h2]
      rfl
theorem len_flat {α : Type} {enc : α → List Value} {k : Nat} (hk : ∀ x, (enc x).length = k) : ∀ d : List α, (d.flatMap enc).length = d.length * k
  | [] => by simp
  | x :: d => by rw [List.flatMap_cons, List.length_append, hk, len_flat hk d, List.length_cons, Nat.add_mul]; omega
/-- Cell j of element i. -/
theorem flat_at {α : Type} {enc : α → List Value} {k : Nat} (hk : ∀ x, (enc x).length = k) {d : List α} {i j : Nat} {x : α} (hi : d[i]? = some x) (hj : j < k) : (d.flatMap enc)[i * k + j]? = (enc x)[j]? := by
  have hlt : i < d.length := (List.getElem?_eq_some_iff.1 hi).1
  have h1 : (i + 1) * k ≤ d.length * k := Nat.mul_le_mul hlt (Nat.le_refl _)
  rw [Nat.add_mul] at h1
  rw [get_flat (by omega) hk d _ (by omega)]
  have h2 : (i * k + j) / k = i := by rw [Nat.mul_comm, Nat.mul_add_div (by omega), Nat.div_eq_of_lt hj]; omega
  have h3 : (i * k + j) % k = j := by rw [Nat.mul_comm, Nat.mul_add_mod, Nat.mod_eq_of_lt hj]
  rw [h2, h3, hi]; rfl
theorem flatK_eq {α : Type} [Inhabited α] {enc : α → List Value} {k : Nat} (hk0 : 0 < k) (hk : ∀ x, (enc x).length = k) (d : List α) : (flatK enc k d.toArray).toList = d.flatMap enc := by
  apply List.ext_getElem?
  intro t
  by_cases ht : t < d.length * k
  · have h1 := get_flatK enc k d.toArray t (by simpa using ht)
    have h2 : t < (flatK enc k d.toArray).size := by simpa using ht
    have hd : t / k < d.length := (Nat.div_lt_iff_lt_mul hk0).2 ht
    have hm : t % k < k := Nat.mod_lt _ hk0
    rw [Array.getElem?_toList, Array.getElem?_eq_getElem h2, get_flat hk0 hk d t ht, List.getElem?_eq_getElem hd]
    rw [getElem!_pos _ t h2] at h1
    rw [h1]
    rw [getElem!_pos d.toArray (t / k) (by simpa using hd)]
    show some ((enc d[t / k])[t % k]!) = (enc d[t / k])[t % k]?
    rw [getElem!_pos _ _ (by rw [hk]; exact hm), List.getElem?_eq_getElem (by rw [hk]; exact hm)]
  · rw [List.getElem?_eq_none (by simp; omega), List.getElem?_eq_none (by rw [len_flat hk]; omega)]
theorem holdsK_of_row {α : Type} [Inhabited α] {enc : α → List Value} {k : Nat} (hk0 : 0 < k) (hk : ∀ x, (enc x).length = k) {w : World} {base : Nat} {e : TypeId} {v : Value} {n : Nat} {d : List α} (h : w.ownsRow base e k v n (d.flatMap enc)) (hv : v ≠ .slice none 0 0) :
    ∃ g cap, v = .slice (some ⟨g, 0, none⟩) n cap ∧ base ≤ g ∧ g < w.heap.size ∧ n ≤ cap ∧ cap ≤ maxLen ∧ d.length = n ∧ HoldsK enc k w g 0 d.toArray := by
  have hl : d.length = n := by
    have := h.1
    rw [len_flat hk] at this
    exact Nat.eq_of_mul_eq_mul_right hk0 this
  rcases h.2 with ⟨e0, _⟩ | ⟨g, cap, cur, rfl, hb, hg, hn, hm, hs, ht⟩
  · exact absurd e0 hv
  · have hlt : g < w.heap.size := (Array.getElem?_eq_some_iff.1 hg).1
    refine ⟨g, cap, rfl, hb, hlt, hn, hm, hl, fun j hj => ?_⟩
    have hj0 : j < (flatK enc k d.toArray).size := hj
    have hj' : j < n * k := by rw [size_flatK, List.size_toArray, hl] at hj0; exact hj0
    refine ⟨?_, by simp [World.frozen?, hg]⟩
    have e1 : (cur.toList.take (n * k))[j]? = (flatK enc k d.toArray).toList[j]? := by rw [ht, flatK_eq hk0 hk]
    rw [List.getElem?_take, if_pos hj', Array.getElem?_toList, Array.getElem?_toList, Array.getElem?_eq_getElem hj0] at e1
    simp only [World.cell?, hg, Nat.zero_add]
    rw [getElem!_pos _ j hj0]
    simpa using e1
theorem ownsRow_putRowK {α : Type} [Inhabited α] {enc : α → List Value} {k : Nat} (hk0 : 0 < k) (hk : ∀ x, (enc x).length = k) {w : World} {base : Nat} {e : TypeId} {g n cap q : Nat} {d ys : List α} (h : w.ownsRow base e k (.slice (some ⟨g, 0, none⟩) n cap) n (d.flatMap enc)) (hy : ys.length = n) :
    (putRowK enc k (Sort.ahead w q) g 0 ys.toArray).ownsRow base e k (.slice (some ⟨g, 0, none⟩) n cap) n (ys.flatMap enc) := by
  rcases h.2 with ⟨e0, _⟩ | ⟨g', cap', cur, e0, hb, hg, hn, hm, hs, ht⟩
  · cases e0
  · injection e0 with e1 _ e3
    injection e1 with e1
    injection e1 with e1
    subst e1; subst e3
    have hnk : n * k ≤ cap * k := Nat.mul_le_mul hn (Nat.le_refl _)
    refine ⟨by rw [len_flat hk, hy], .inr ⟨g, cap, putCells id 0 (flatK enc k ys.toArray) cur, rfl, hb, ?_, hn, hm, by simpa [putCells] using hs, ?_⟩⟩
    · simp [putRowK, putRow, mapBlock, Sort.ahead, Array.getElem?_modify, hg, onCells]
    · rw [← flatK_eq hk0 hk]
      apply List.ext_getElem?
      intro j
      rw [List.getElem?_take, Array.getElem?_toList, Array.getElem?_toList]
      by_cases hj : j < n * k
      · have hjc : j < cur.size := by omega
        have hjf : j < (flatK enc k ys.toArray).size := by simp [hy]; exact hj
        simp only [if_pos hj, putCells, Array.getElem?_mapIdx, Array.getElem?_eq_getElem hjc, Option.map_some]
        rw [if_pos (by constructor <;> omega), Array.getElem?_eq_getElem hjf]
        show some (id (flatK enc k ys.toArray)[j - 0]!) = _
        rw [Nat.sub_zero, getElem!_pos _ j hjf]; rfl
      · rw [if_neg hj, Array.getElem?_eq_none (by simp [hy]; omega)]
/-! The comparison. -/
theorem cmpLays_of {P : Program} {α : Type} [Inhabited α] {g : Nat} {cb : Array Value} {enc : α → List Value} {k : Nat} {cf : α → α → Int} {blk off size : Nat} {w : World}
    (h : ∀ (m : Nat) (os : Array Obj) (dk : Array α), ∀ x y : α, Calls P g (#[.agg (enc x).toArray, .agg (enc y).toArray] ++ cb) (sortWorldK enc k w blk off m dk os) fun e w' => e = .returned (.int .i64 (cf x y)) ∧ Below (sortWorldK enc k w blk off m dk os).heap.size (sortWorldK enc k w blk off m dk os) w') : CmpLays P g cb enc k cf blk off size w := by
  intro m os dk _ x y
  refine (calls_drawn (h m os dk x y)).mono ?_
  rintro e w' ⟨⟨he, hb⟩, hd⟩
  exact ⟨he, grown_of_below hb (hd _ he)⟩
theorem sortWorldK_below {α : Type} [Inhabited α] {enc : α → List Value} {k : Nat} {w : World} {B blk m : Nat} {dk : Array α} {os : Array Obj} (hB : B ≤ w.heap.size) (hg : B ≤ blk) : Below B w (sortWorldK enc k w blk 0 m dk os) := by
  unfold sortWorldK
  have h1 : Below B w (putRowK enc k (Sort.ahead w m) blk 0 dk) := Lib.below_putRow (Below.refl B w) hg
  refine ⟨h1.os, h1.tape, h1.output, ?_, fun j hj => ?_⟩
  · rw [size_grow]; exact Nat.le_trans h1.size (Nat.le_add_right _ _)
  · rw [heap_grow_old _ _ (by have := h1.size; omega)]; exact h1.block j hj
section
variable {P : Program} {ρ : Ren} {α : Type} [Inhabited α]
/-- A row of structs of the call's own is sorted. -/
theorem sort_rowK (L : SlLaysF0.n6 P ρ) (k : Nat) (hk0 : 0 < k) (aE : ∀ w, (isAgg (ρ.t 24)).run P w = .ok true w) (zE : ∀ w, (Go.sizeOf (ρ.t 24)).run P w = .ok k w) (enc : α → List Value) (hk : ∀ x, (enc x).length = k) (h1 : ∀ x, ∀ v ∈ enc x, v.oneCell' = true) (cf : α → α → Int) (hO : SWO (ltOf cf))
    (hT : ∀ x y, (ltOf cf) x y = false → (ltOf cf) y x = false → x = y) (g : Nat) (cb : Array Value) (eg : ∀ args w, (callFunc g args).run P w = .ok (.enter g args) w)
    {r w : World} {A C : List Own} {v : Value} {d : List α} {e : TypeId} (hS : Sat r (A ++ row false v d.length (d.flatMap enc) e k :: C) w) (hn : noOld (A ++ row false v d.length (d.flatMap enc) e k :: C) = true) (hlen : d.length < 4611686018427387904)
    (hc : ∀ W, Below r.heap.size r W → ∀ x y, Calls P g (#[.agg (enc x).toArray, .agg (enc y).toArray] ++ cb) W fun e w' => e = .returned (.int .i64 (cf x y)) ∧ Below W.heap.size W w') :
    Calls P (ρ.f 6) #[v, .func (.func g) #[] cb] w fun e' w' => e' = .returned (.tuple #[]) ∧ Sat r (A ++ row false v d.length ((d.mergeSort fun x y => !(ltOf cf) y x).flatMap enc) e k :: C) w' := by
  have hmem : row false v d.length (d.flatMap enc) e k ∈ A ++ row false v d.length (d.flatMap enc) e k :: C := by simp
  have hrow : w.ownsRow 0 e k v d.length (d.flatMap enc) := (hS.all _ hmem).1
  have hperm := d.mergeSort_perm (fun x y => !(ltOf cf) y x)
  by_cases hv : v = .slice none 0 0
  · subst hv
    have hl0 : d = [] := by
      rcases hrow.2 with ⟨_, h0⟩ | ⟨g, cap, cur, he, _⟩
      · exact List.eq_nil_of_length_eq_zero h0
      · cases he
    subst hl0
    refine (AnyF.slices_SortFunc_none L none 0 _ w).mono ?_
    rintro e' w' ⟨rfl, rfl⟩
    exact ⟨rfl, by simpa using hS⟩
  have hfoot := (hS.all _ hmem).2
  obtain ⟨gb, cap, rfl, _, hg, hcap, hmax, hdl, hH⟩ := holdsK_of_row hk0 hk hrow hv
  have hgr : r.heap.size ≤ gb := (hfoot gb rfl).2 rfl
  have hbr := hS.below hn
  have hcmp : CmpLays P g cb enc k cf gb 0 d.toArray.size w := cmpLays_of fun m os dk x y =>
    hc _ (hbr.trans (sortWorldK_below hbr.size hgr)) x y
  have hcall := AnyQ.slices_SortFunc_total L k aE zE enc hk h1 cf hO g cb gb 0 cap d.toArray w eg hcmp hH hg (by simpa using hlen) hT
  rw [List.size_toArray, show d.toArray.toList = d from rfl] at hcall
  refine hcall.mono ?_
  rintro e' w' ⟨rfl, n, os, rfl⟩
  refine ⟨rfl, ?_⟩
  have hown := ownsRow_putRowK (q := n) (ys := d.mergeSort fun x y => !(ltOf cf) y x) hk0 hk hrow hperm.length_eq
  unfold sortWorldK
  have hS1 : Sat r (A ++ row false (.slice (some ⟨gb, 0, none⟩) d.length cap) d.length ((d.mergeSort fun x y => !(ltOf cf) y x).flatMap enc) e k :: C) (putRowK enc k (Sort.ahead w n) gb 0 (d.mergeSort fun x y => !(ltOf cf) y x).toArray) := by
    refine hS.upd rfl rfl rfl (by simp [putRowK, putRow, mapBlock, Sort.ahead]) (fun j hj hne => ?_) hown (fun b hb => ⟨.inl hb, ?_⟩) rfl (fun h => by cases h)
    · have : gb ≠ j := fun e => hne (by rw [← e]; rfl)
      simp [putRowK, putRow, mapBlock, Sort.ahead, Array.getElem?_modify, this]
    · have : gb = b := by injection (hb : some gb = some b)
      subst this
      simpa [putRowK, putRow, mapBlock, Sort.ahead] using hg
  exact hS1.ext ⟨rfl, rfl, rfl, by rw [size_grow]; omega, fun j hj => heap_grow_old _ _ hj⟩
end
end Go.Proofs.YtddiecdoaggaaaaGreatDoor
namespace Go.Proofs.YtddiecdoaggaaaaGreatDoor
open Go.RowKit

/-- The piece from a to b of a slice. -/
def pieceV (ea : Option Addr) (a b cap sz : Nat) : Value := .slice (if cap = a then ea else ea.map (·.add (a * sz))) (b - a) (cap - a)
section
variable {P : Program} {N : Nat} {env : Env} {r w : World} {O : List Own} {Q : Exit → Act → World → Prop} {ops : Array Oper} {rest : List Oper} {d : Nat} {ty : TypeId} {pos : String} {after : Array Edge} {v : Value}
theorem ov_sliceto' {x hi : Operand} {t e : TypeId} {a : Option Addr} {len cap : Nat} {k : IntKind} {j : Int} [ht : TElem P t e] {sz : Nat} [hsz : TSize P e sz] (hx : evx env x = some (.slice a len cap)) (hh : evx env hi = some (.int k j)) (m : Nat) (hj : j = m) (h2 : m ≤ cap) :
    OV P env (.slice t x none (some hi) none) w (pieceV a 0 m cap sz) := by
  intro ρ hρ o ho; unfold execOp; rw [ho]
  subst hj
  have hu : P.underlying t = some (.slice (P.elem t)) := by rw [elem_of ht.eq]; exact ht.eq
  have := run_slice_h (P := P) (w := w) t a len cap hu k m (by omega) (by omega)
  simp only [hρ hx, Option.map_some, Option.map_none, hρ hh, run_sliceAt_slice w t _ _ _ _ hu, Sem.run_bind, this, Result.andThen_ok, elem_of ht.eq, hsz.run, Sem.run_pure, Int.toNat_natCast]
  rfl
theorem ov_slicefrom {x lo : Operand} {t e : TypeId} {a : Option Addr} {len cap : Nat} {k : IntKind} {j : Int} [ht : TElem P t e] {sz : Nat} [hsz : TSize P e sz] (hx : evx env x = some (.slice a len cap)) (hh : evx env lo = some (.int k j)) (m : Nat) (hj : j = m) (h2 : m ≤ len) :
    OV P env (.slice t x (some lo) none none) w (pieceV a m len cap sz) := by
  intro ρ hρ o ho; unfold execOp; rw [ho]
  subst hj
  have hu : P.underlying t = some (.slice (P.elem t)) := by rw [elem_of ht.eq]; exact ht.eq
  have := run_slice_l (P := P) (w := w) t a len cap hu k m (by omega) (by omega)
  simp only [hρ hx, Option.map_some, Option.map_none, hρ hh, run_sliceAt_slice w t _ _ _ _ hu, Sem.run_bind, this, Result.andThen_ok, elem_of ht.eq, hsz.run, Sem.run_pure, Int.toNat_natCast]
  rfl
theorem ov_slicelh {x lo hi : Operand} {t e : TypeId} {a : Option Addr} {len cap : Nat} {k k' : IntKind} {j i : Int} [ht : TElem P t e] {sz : Nat} [hsz : TSize P e sz] (hx : evx env x = some (.slice a len cap)) (hl : evx env lo = some (.int k j)) (hh : evx env hi = some (.int k' i)) (m n : Nat) (hj : j = m) (hi' : i = n) (h1 : m ≤ n) (h2 : n ≤ cap) :
    OV P env (.slice t x (some lo) (some hi) none) w (pieceV a m n cap sz) := by
  intro ρ hρ o ho; unfold execOp; rw [ho]
  subst hj hi'
  have hu : P.underlying t = some (.slice (P.elem t)) := by rw [elem_of ht.eq]; exact ht.eq
  have := run_slice_lh (P := P) (w := w) t a len cap hu k k' m n (by omega) (by omega) (by omega)
  simp only [hρ hx, Option.map_some, Option.map_none, hρ hl, hρ hh, run_sliceAt_slice w t _ _ _ _ hu, Sem.run_bind, this, Result.andThen_ok, elem_of ht.eq, hsz.run, Sem.run_pure, Int.toNat_natCast]
  rfl
/-- The address of an element, where it is known that there is a row. -/
theorem ov_indexAddrE {x y : Operand} {t e : TypeId} {ea : Option Addr} {len cap b o : Nat} {k : IntKind} {i : Int} {sz : Nat} [ht : TElem P t e] [hsz : TSize P e sz] (hea : ea = some ⟨b, o, none⟩) (hx : evx env x = some (.slice ea len cap)) (hy : evx env y = some (.int k i)) (j : Nat) (hj : i = j) (hlt : j < len) :
    OV P env (.indexAddr t x y) w (.pointer (some ⟨b, o + j * sz, none⟩)) := by
  subst hea; exact ov_indexAddr hx hy j hj hlt
theorem ov_indexAddrE1 {x y : Operand} {t e : TypeId} {ea : Option Addr} {len cap b o : Nat} {k : IntKind} {i : Int} [ht : TElem P t e] [hsz : TSize P e 1] (hea : ea = some ⟨b, o, none⟩) (hx : evx env x = some (.slice ea len cap)) (hy : evx env y = some (.int k i)) (j : Nat) (hj : i = j) (hlt : j < len) :
    OV P env (.indexAddr t x y) w (.pointer (some ⟨b, o + j, none⟩)) := by
  subst hea; exact ov_indexAddr1o hx hy j hj hlt
end
/-- The slice ea holds n elements of sz cells each: all its cells. -/
def RowIs (w : World) (ea : Option Addr) (n cap sz : Nat) (cs : List Value) : Prop :=
  n ≤ cap ∧ (ea = none → cap = 0) ∧ cs.length = n * sz ∧ ∀ j u, cs[j]? = some u → ∃ ad, ea = some ad ∧ w.cell? (ad.add j) = some u
theorem RowIs.ext {w w' : World} {ea : Option Addr} {n cap sz : Nat} {cs : List Value} (h : RowIs w ea n cap sz cs) (hb : Below w.heap.size w w') : RowIs w' ea n cap sz cs := by
  obtain ⟨h1, h2, h3, h4⟩ := h
  refine ⟨h1, h2, h3, fun j u hj => ?_⟩
  obtain ⟨ad, h5, h6⟩ := h4 j u hj
  exact ⟨ad, h5, cell_ext hb h6⟩
theorem rowIs_own {w : World} {base n cap sz : Nat} {e : TypeId} {ea : Option Addr} {cs : List Value} (h : w.ownsRow base e sz (.slice ea n cap) n cs) : RowIs w ea n cap sz cs := by
  have h' := h
  obtain ⟨h1, h2⟩ := h
  rcases h2 with ⟨h3, h4⟩ | ⟨g, c, cur, h3, _, _, h4, _⟩
  · injection h3 with e1 e2 e3
    subst e1 e3
    refine ⟨by omega, fun _ => rfl, h1, fun j u hj => ?_⟩
    have : cs = [] := List.eq_nil_of_length_eq_zero (by rw [h1, h4]; simp)
    subst this; cases hj
  · injection h3 with e1 e2 e3
    subst e1 e3
    exact ⟨by omega, (fun h => by cases h), h1, fun j u hj => ⟨_, rfl, h'.cells (g := g) rfl j u hj⟩⟩
theorem k_rowsliceC {N : Nat} {env : Env} {r : World} {O : List Own} {F : Act → World → Prop} (i : Nat) {f : Bool} {v : Value} {n : Nat} {xs : List Value} {e : TypeId} {sz : Nat} (hO : nthO O i = some (row f v n xs e sz)) (h : ∀ ea cap, v = .slice ea n cap → n ≤ cap → (ea = none → cap = 0) → K N env r O F) : K N env r O F := by
  intro w hw
  have h1 := hw.row i hO
  obtain ⟨ea, cap, hv⟩ := own_slice h1
  have h2 := rowIs_own (hv ▸ h1)
  exact h ea cap hv h2.1 h2.2.1 w hw
theorem rowIs_strs {w : World} {ea : Option Addr} {n cap : Nat} {l : List ByteArray} (h : StrsAt w (.slice ea n cap) l) (hn : ea = none → cap = 0) : RowIs w ea n cap 1 (l.map Value.string) := by
  obtain ⟨ea', cap', he, hl, hc⟩ := h
  injection he with e1 e2 e3
  subst e1 e2 e3
  refine ⟨hl.1, hn, by simp, fun j u hj => ?_⟩
  rw [List.getElem?_map] at hj
  cases hs : l[j]? with
  | none => rw [hs] at hj; cases hj
  | some s =>
    rw [hs] at hj
    injection hj with hj
    subst hj
    obtain ⟨b, o, h1, h2⟩ := hc j s hs
    exact ⟨_, h1, by rw [addr_add]; exact h2⟩
theorem addr_add_add (a : Addr) (i j : Nat) : (a.add i).add j = a.add (i + j) := by
  obtain ⟨b, o, s⟩ := a
  unfold Addr.add
  by_cases hi : i = 0
  · subst hi; simp
  · by_cases hj : j = 0
    · subst hj; simp [hi]
    · rw [if_neg hi, if_neg hj, if_neg (by omega)]; simp [Nat.add_assoc]
/-- What a piece holds. -/
theorem RowIs.piece {w : World} {ea : Option Addr} {n cap sz : Nat} {cs : List Value} (h : RowIs w ea n cap sz cs) (a b : Nat) (hab : a ≤ b) (hb : b ≤ n) : RowNow w (pieceV ea a b cap sz) (b - a) ((cs.drop (a * sz)).take ((b - a) * sz)) := by
  obtain ⟨h1, h2, h3, h4⟩ := h
  unfold pieceV
  cases ea with
  | none =>
    have := h2 rfl
    have ha : a = 0 := by omega
    have hb0 : b = 0 := by omega
    subst ha hb0 this
    exact .inl ⟨rfl, rfl, by simp⟩
  | some ad =>
    by_cases hc : cap = a
    · subst hc
      have : b = cap := by omega
      subst this
      rw [if_pos rfl, Nat.sub_self]
      exact .inr ⟨ad, 0, rfl, fun j u hj => by simp at hj⟩
    · rw [if_neg hc]
      refine .inr ⟨ad.add (a * sz), cap - a, rfl, fun j u hj => ?_⟩
      rw [List.getElem?_take] at hj
      split at hj
      · rw [List.getElem?_drop] at hj
        obtain ⟨ad', e, h5⟩ := h4 _ _ hj
        injection e with e
        subst e
        rw [addr_add_add]; exact h5
      · cases hj
theorem RowIs.take {w : World} {ea : Option Addr} {n cap sz : Nat} {cs : List Value} (h : RowIs w ea n cap sz cs) (b : Nat) (hb : b ≤ n) : RowNow w (pieceV ea 0 b cap sz) b (cs.take (b * sz)) := by
  have := h.piece 0 b (Nat.zero_le _) hb
  simpa using this
theorem RowIs.drop {w : World} {ea : Option Addr} {n cap sz : Nat} {cs : List Value} (h : RowIs w ea n cap sz cs) (a : Nat) (ha : a ≤ n) : RowNow w (pieceV ea a n cap sz) (n - a) (cs.drop (a * sz)) := by
  have h' := h.piece a n ha (Nat.le_refl _)
  rwa [List.take_of_length_le] at h'
  rw [List.length_drop, h.2.2.1, ← Nat.sub_mul]
  exact Nat.le_refl _
/-- An element of sz cells. -/
theorem RowIs.cell {w : World} {b o n cap sz : Nat} {cs : List Value} (h : RowIs w (some ⟨b, o, none⟩) n cap sz cs) {j : Nat} {u : Value} (hj : cs[j]? = some u) : w.cell? ⟨b, o + j, none⟩ = some u := by
  obtain ⟨ad, e, h1⟩ := h.2.2.2 j u hj
  injection e with e
  subst e
  rwa [addr_add] at h1
end Go.Proofs.YtddiecdoaggaaaaGreatDoor
namespace Go.Proofs.YtddiecdoaggaaaaGreatDoor
open Go.RowKit

/-- Two parts as one. -/
def pairO (a b : Own) : Own := ⟨fun k => a.foot k ∨ b.foot k, a.old, fun w => a.p w ∧ b.p w, fun w w' h hp => ⟨a.loc w w' (fun k hk => h k (.inl hk)) hp.1, b.loc w w' (fun k hk => h k (.inr hk)) hp.2⟩⟩
/-- What is known of some blocks. -/
def fct (foot : Nat → Prop) (p : World → Prop) (loc : ∀ w w' : World, (∀ b, foot b → w'.heap[b]? = w.heap[b]?) → p w → p w') : Own := ⟨foot, false, p, loc⟩
section
variable {r w : World}
theorem Sat.both {A B C : List Own} {a b : Own} (h : Sat r (A ++ a :: (B ++ b :: C)) w) (ha : a.old = false) (hb : b.old = false) : Sat r (A ++ pairO a b :: (B ++ C)) w := by
  have hm : ∀ o, o ∈ A ++ pairO a b :: (B ++ C) → o = pairO a b ∨ o ∈ A ∨ o ∈ B ∨ o ∈ C := by
    intro o ho
    simp only [List.mem_append, List.mem_cons] at ho
    rcases ho with h | h | h | h
    · exact .inr (.inl h)
    · exact .inl h
    · exact .inr (.inr (.inl h))
    · exact .inr (.inr (.inr h))
  have hA : ∀ o, (o ∈ A ∨ o = a ∨ o ∈ B ∨ o = b ∨ o ∈ C) → o ∈ A ++ a :: (B ++ b :: C) := by
    intro o ho
    simp only [List.mem_append, List.mem_cons]
    rcases ho with h | h | h | h | h
    · exact .inl h
    · exact .inr (.inl h)
    · exact .inr (.inr (.inl h))
    · exact .inr (.inr (.inr (.inl h)))
    · exact .inr (.inr (.inr (.inr h)))
  have ha' := h.all a (hA a (.inr (.inl rfl)))
  have hb' := h.all b (hA b (.inr (.inr (.inr (.inl rfl)))))
  refine ⟨h.os, h.tape, h.output, h.size, fun k hk hh => h.agree k hk fun o ho hold => ?_, fun o ho => ?_, ?_⟩
  · simp only [List.mem_append, List.mem_cons] at ho
    rcases ho with h1 | rfl | h1 | rfl | h1
    · exact hh o (by simp [h1]) hold
    · rw [ha] at hold; cases hold
    · exact hh o (by simp [h1]) hold
    · rw [hb] at hold; cases hold
    · exact hh o (by simp [h1]) hold
  · rcases hm o ho with rfl | h1 | h1 | h1
    · refine ⟨⟨ha'.1, hb'.1⟩, fun k hk => ?_⟩
      rcases hk with hk | hk
      · exact ⟨(ha'.2 k hk).1, fun _ => (ha'.2 k hk).2 ha⟩
      · exact ⟨(hb'.2 k hk).1, fun _ => (hb'.2 k hk).2 hb⟩
    · exact h.all o (hA o (.inl h1))
    · exact h.all o (hA o (.inr (.inr (.inl h1))))
    · exact h.all o (hA o (.inr (.inr (.inr (.inr h1)))))
  · have hd := h.disj
    rw [List.pairwise_append] at hd ⊢
    obtain ⟨d1, d2, d3⟩ := hd
    rw [List.pairwise_cons] at d2
    obtain ⟨d4, d5⟩ := d2
    rw [List.pairwise_append] at d5
    obtain ⟨d6, d7, d8⟩ := d5
    rw [List.pairwise_cons] at d7
    obtain ⟨d9, d10⟩ := d7
    refine ⟨d1, ?_, ?_⟩
    · rw [List.pairwise_cons]
      refine ⟨fun o ho k hk => ?_, ?_⟩
      · rcases List.mem_append.1 ho with ho | ho
        · rcases hk.1 with h1 | h1
          · exact d4 o (by simp [ho]) k ⟨h1, hk.2⟩
          · exact d8 o ho b (by simp) k ⟨hk.2, h1⟩
        · rcases hk.1 with h1 | h1
          · exact d4 o (by simp [ho]) k ⟨h1, hk.2⟩
          · exact d9 o ho k ⟨h1, hk.2⟩
      · rw [List.pairwise_append]
        exact ⟨d6, d10, fun x hx y hy => d8 x hx y (by simp [hy])⟩
    · intro x hx y hy k hk
      rcases List.mem_cons.1 hy with rfl | hy
      · rcases hk.2 with h1 | h1
        · exact d3 x hx a (by simp) k ⟨hk.1, h1⟩
        · exact d3 x hx b (by simp) k ⟨hk.1, h1⟩
      · rcases List.mem_append.1 hy with hy | hy
        · exact d3 x hx y (by simp [hy]) k hk
        · exact d3 x hx y (by simp [hy]) k hk
/-- Of a part less is kept in mind. -/
theorem Sat.weak {A C : List Own} {a b : Own} (h : Sat r (A ++ a :: C) w) (ha : a.old = false) (hb : b.old = false) (hf : ∀ k, b.foot k → a.foot k) (hp : a.p w → b.p w) : Sat r (A ++ b :: C) w := by
  have hmem : a ∈ A ++ a :: C := by simp
  have ha' := h.all a hmem
  refine ⟨h.os, h.tape, h.output, h.size, fun k hk hh => h.agree k hk fun o ho hold => ?_, fun o ho => ?_, ?_⟩
  · simp only [List.mem_append, List.mem_cons] at ho
    rcases ho with h1 | rfl | h1
    · exact hh o (by simp [h1]) hold
    · rw [ha] at hold; cases hold
    · exact hh o (by simp [h1]) hold
  · simp only [List.mem_append, List.mem_cons] at ho
    rcases ho with h1 | rfl | h1
    · exact h.all o (by simp [h1])
    · exact ⟨hp ha'.1, fun k hk => ⟨(ha'.2 k (hf k hk)).1, fun _ => (ha'.2 k (hf k hk)).2 ha⟩⟩
    · exact h.all o (by simp [h1])
  · have hd := h.disj
    rw [List.pairwise_append, List.pairwise_cons] at hd ⊢
    obtain ⟨d1, ⟨d2, d3⟩, d4⟩ := hd
    refine ⟨d1, ⟨fun o ho k hk => d2 o ho k ⟨hf k hk.1, hk.2⟩, d3⟩, fun x hx y hy k hk => ?_⟩
    rcases List.mem_cons.1 hy with rfl | hy
    · exact d4 x hx a (by simp) k ⟨hk.1, hf k hk.2⟩
    · exact d4 x hx y (by simp [hy]) k hk
end
section
variable {N : Nat} {env : Env} {r : World} {F : Act → World → Prop}
theorem k_both {A B C : List Own} {a b : Own} (ha : a.old = false) (hb : b.old = false) (h : K N env r (A ++ pairO a b :: (B ++ C)) F) : K N env r (A ++ a :: (B ++ b :: C)) F := fun w hw => h w (hw.both ha hb)
theorem k_weak {A C : List Own} {a : Own} (b : Own) (ha : a.old = false) (hb : b.old = false) (hf : ∀ k, b.foot k → a.foot k) (hp : ∀ w, a.p w → b.p w) (h : K N env r (A ++ b :: C) F) : K N env r (A ++ a :: C) F := fun w hw => h w (hw.weak ha hb hf (hp w))
/-- An empty part may always be had. -/
theorem k_fct0 {O : List Own} (p : World → Prop) (foot : Nat → Prop) (loc : ∀ w w' : World, (∀ b, foot b → w'.heap[b]? = w.heap[b]?) → p w → p w') (hf : ∀ k, ¬ foot k) (hp : ∀ w, p w) (h : K N env r (fct foot p loc :: O) F) : K N env r O F := fun w hw =>
  h w (hw.add (Below.refl _ _) (hp w) (fun b hb => absurd hb (hf b)) rfl)
end
/-- A struct or an array within a block, told. -/
theorem ov_partE {P : Program} {env : Env} {r w : World} {O : List Own} {f : Bool} {b o n : Nat} {cs c : List Value} {t t0 : TypeId} {x : Operand} [TSize P t n] [TAgg P t true] (i : Nat) (hw : Sat r O w) (hx : evx env x = some (.pointer (some ⟨b, o, none⟩))) (hO : nthO O i = some (bk f b cs t0)) (hn : o + n ≤ cs.length) (he : (cs.drop o).take n = c) : OV P env (.load t x) w (.agg c.toArray) := by
  subst he; exact ov_ownPart i hw inferInstance hx hO hn
/-- A slice of the call's own that holds something. -/
theorem k_rowsome {N : Nat} {env : Env} {r : World} {O : List Own} {F : Act → World → Prop} (i : Nat) {f : Bool} {v : Value} {n : Nat} {xs : List Value} {e : TypeId} {sz : Nat} (hn : 0 < n) (hO : nthO O i = some (row f v n xs e sz)) (h : ∀ g cap, v = .slice (some ⟨g, 0, none⟩) n cap → n ≤ cap → K N env r O F) : K N env r O F := by
  intro w hw
  rcases (hw.row i hO).2 with ⟨_, h3⟩ | ⟨g, cap, cur, h3, _, _, h4, _⟩
  · omega
  · exact h g cap h3 h4 w hw
end Go.Proofs.YtddiecdoaggaaaaGreatDoor
namespace Go.Proofs.YtddiecdoaggaaaaGreatDoor
open Go.RowKit Go.Sort

abbrev Id32 := { l : List UInt8 // l.length = 32 }
instance : Inhabited Id32 := ⟨⟨List.replicate 32 0, by simp⟩⟩
def idC (x : Id32) : List Value := u8C x.1
theorem u8C_len (l : List UInt8) : (u8C l).length = l.length := by simp [u8C]
theorem idC_len (x : Id32) : (idC x).length = 32 := by rw [idC, u8C_len, x.2]
theorem u8C_one (l : List UInt8) : (u8C l).all (·.oneCell') = true := by unfold u8C; rw [List.all_map]; exact List.all_eq_true.2 fun _ _ => rfl
theorem idC_one (x : Id32) : (idC x).all (·.oneCell') = true := u8C_one _
/-- The place of the first element with p, or -1. -/
def firstX {α : Type} (p : α → Bool) : List α → Nat → Int
  | [], _ => -1
  | x :: l, i => if p x then (i : Int) else firstX p l (i + 1)
theorem firstX_any {α : Type} (p : α → Bool) : ∀ (l : List α) (i : Nat), decide (0 ≤ firstX p l i) = l.any p
  | [], i => rfl
  | x :: l, i => by
    rw [firstX, List.any_cons]
    cases hp : p x with
    | true => rw [if_pos rfl]; simp
    | false => rw [if_neg (by simp), firstX_any p l (i + 1)]; simp
section
variable {P : Program} {N : Nat} {env : Env} {r w : World} {O : List Own} {Q : Exit → Act → World → Prop} {ops : Array Oper} {rest : List Oper} {d : Nat} {ty : TypeId} {pos : String} {after : Array Edge} {v : Value}
/-- A whole array as a slice. -/
theorem ov_arrall {x : Operand} {t e : TypeId} {b off n sz : Nat} [ht : TArr P t n e] [hsz : TSize P e sz] (hx : evx env x = some (.pointer (some ⟨b, off, none⟩))) : OV P env (.slice t x none none none) w (.slice (some ⟨b, off, none⟩) n n) := by
  intro ρ hρ o ho; unfold execOp; rw [ho]
  have he : P.elem t = e := by simp [Program.elem, ht.eq]
  have hl : P.arrayLen t = n := by simp [Program.arrayLen, ht.eq]
  have := run_sliceAt_array_all (P := P) w t ⟨b, off, none⟩ (by rw [he, hl]; exact ht.eq)
  rw [hl, he, hsz.run] at this
  simp only [hρ hx, Option.map_none, Sem.run_bind, this, Result.andThen_ok, Sem.run_pure, slicedAt, Nat.zero_mul, Nat.sub_zero, Addr.add, if_true, ite_self]
/-- Two arrays of bytes. -/
theorem ov_bytesEq {x y : Operand} {t t' e : TypeId} {n : Nat} [ht : TArr P t n e] [he : TIntK P e .u8] [hsz : TSize P e 1] {a b : List UInt8} (hg : P.eqGuardType P.depth t = false) (hx : evx env x = some (.agg (u8C a).toArray)) (hy : evx env y = some (.agg (u8C b).toArray)) (ha : a.length = n) (hb : b.length = n) :
    OV P env (.binOp .eql t x y t') w (.bool (decide (a = b))) := by
  intro ρ hρ o ho; unfold execOp; rw [ho]
  have h := run_eql_bytes (P := P) w t e n ht.eq he.eq hsz.run a b ha hb
  have e1 : (a == b) = decide (a = b) := by rw [Bool.eq_iff_iff]; simp
  rw [e1] at h
  simp only [hρ hx, hρ hy, Sem.run_bind]
  rw [run_eqGuard_agg w .eql t x y _ _ hg]
  simp only [Result.andThen_ok]
  rw [show ((u8C a).toArray : Array Value) = (a.map Extern.Stop.cell).toArray from rfl, show ((u8C b).toArray : Array Value) = (b.map Extern.Stop.cell).toArray from rfl]
  simp only [h, Result.andThen_ok, Sem.run_pure]
theorem ov_bytesNe {x y : Operand} {t t' e : TypeId} {n : Nat} [ht : TArr P t n e] [he : TIntK P e .u8] [hsz : TSize P e 1] {a b : List UInt8} (hg : P.eqGuardType P.depth t = false) (hx : evx env x = some (.agg (u8C a).toArray)) (hy : evx env y = some (.agg (u8C b).toArray)) (ha : a.length = n) (hb : b.length = n) :
    OV P env (.binOp .neq t x y t') w (.bool (!decide (a = b))) := by
  intro ρ hρ o ho; unfold execOp; rw [ho]
  have h := run_equalIn_bytes (P := P) w 9998 t e n ht.eq he.eq hsz.run a b ha hb
  have e1 : (a == b) = decide (a = b) := by rw [Bool.eq_iff_iff]; simp
  rw [e1] at h
  simp only [hρ hx, hρ hy, Sem.run_bind]
  rw [run_eqGuard_agg w .neq t x y _ _ hg]
  simp only [Result.andThen_ok]
  rw [show ((u8C a).toArray : Array Value) = (a.map Extern.Stop.cell).toArray from rfl, show ((u8C b).toArray : Array Value) = (b.map Extern.Stop.cell).toArray from rfl, run_neq_struct, h]
  simp
/-- An element of several cells, as a value. -/
theorem ov_rowAgg {x : Operand} {t : TypeId} {b o i n cap sz : Nat} {cs c : List Value} [ht : TAgg P t true] [hs : TSize P t sz] (hI : RowIs w (some ⟨b, o, none⟩) n cap sz cs) (hx : evx env x = some (.pointer (some ⟨b, o + i * sz, none⟩))) (hl : c.length = sz) (hc : ∀ j u, c[j]? = some u → cs[i * sz + j]? = some u) : OV P env (.load t x) w (.agg c.toArray) :=
  ov_loadAgg hx hl fun j u hj => by rw [addr_add, Nat.add_assoc]; exact hI.cell (hc j u hj)
end
theorem flat_cells {α : Type} {enc : α → List Value} {k : Nat} (hk : ∀ x, (enc x).length = k) {d : List α} {i : Nat} {x : α} (hi : d[i]? = some x) : ∀ j u, (enc x)[j]? = some u → (d.flatMap enc)[i * k + j]? = some u := fun j u hj => by
  rw [flat_at hk hi (by rw [← hk x]; exact (List.getElem?_eq_some_iff.1 hj).1)]; exact hj
set_option maxRecDepth 100000
attribute [local irreducible] K KS KLeft KRound J OV EV EU Blk wpList Code.wp bodyPost Exit.then Exit.inBlock Round Left Hid JS wpStill wpHeld Calls
theorem cmpI_any (x y : Int) (w : World) : Calls Tryz.prog 27 #[.int .i64 x, .int .i64 y] w fun e w' => e = .returned (.int .i64 (Lib.compareInt x y)) ∧ Below w.heap.size w w' :=
  (Tryz.cmp_Compare_int x y w).mono fun e w' h => ⟨h.1, h.2 ▸ Below.refl _ _⟩
theorem bcmp_any (x y : List UInt8) (a b : Addr) (n m c d : Nat) (r : World) (hn : n = x.length) (hm : m = y.length) (ha : ∀ j u, (u8C x)[j]? = some u → r.cell? (a.add j) = some u) (hb : ∀ j u, (u8C y)[j]? = some u → r.cell? (b.add j) = some u) :
    Calls Tryz.prog 28 #[.slice (some a) n c, .slice (some b) m d] r fun e w' => e = .returned (.int .i64 (Lib.compareBytes x y)) ∧ Below r.heap.size r w' := by
  subst hn hm
  refine k_enter (N := 8) Tryz.func28 rfl rfl rfl ?_
  refine walkB ?_
  refine k_op rfl (fun w hw => ov_extern (e := Extern.BytealgCompare.compare) Tryz.func47 (by kernel_rfl) (by kernel_rfl) (by kernel_rfl) (by kernel_rfl) rfl (run_compareSlices (fun j u h => cell_ext (hw.below rfl) (ha j u h)) (fun j u h => cell_ext (hw.below rfl) (hb j u h)))) ?_
  refine walkB ?_
  exact k_ret1 rfl rfl fun w hw => ⟨rfl, hw.below rfl⟩
theorem or2_any (b : Nat) (t : TypeId) (x y : Int) (r : World) (hb : Blk r b [.int .i64 x, .int .i64 y] t) : Calls Tryz.prog 26 #[.slice (some ⟨b, 0, none⟩) 2 2] r fun e w' => e = .returned (.int .i64 (if x = 0 then y else x)) ∧ Below r.heap.size r w' := by
  refine k_enter (N := 18) Tryz.func26 rfl rfl rfl ?_
  refine walkB ?_
  refine k_loop (σ := Nat) (fun k => [(0, .slice (some ⟨b, 0, none⟩) 2 2), (3, .int .i64 0), (6, .slice (some ⟨b, 0, none⟩) 2 2), (7, .int .i64 2), (8, .int .i64 k)]) (fun _ => []) (fun k => k ≤ 2 ∧ (1 ≤ k → x = 0) ∧ (2 ≤ k → y = 0)) (fun k => 2 - k) 0 (by repeat (first | exact Sub.nil | refine Sub.cons rfl ?_)) (by repeat (first | exact SubO.nil | refine SubO.keep ?_ | refine SubO.drop rfl ?_)) ⟨by omega, by omega, by omega⟩ ?_
  rintro k ⟨hk, h1, h2⟩
  rcases (by omega : k = 0 ∨ k = 1 ∨ k = 2) with rfl | rfl | rfl
  · by_cases hx : x = 0
    · refine walkB ?_
      exact k_round 1 (by repeat (first | exact Sub.nil | refine Sub.cons rfl ?_)) (by repeat (first | exact SubO.nil | refine SubO.keep ?_ | refine SubO.drop rfl ?_)) ⟨by omega, fun _ => hx, by omega⟩ (by omega)
    · rw [if_neg hx]
      refine walkB ?_
      exact k_ret1 rfl rfl fun w hw => ⟨rfl, hw.below rfl⟩
  · rw [if_pos (h1 (by omega))]
    by_cases hy : y = 0
    · refine walkB ?_
      exact k_round 2 (by repeat (first | exact Sub.nil | refine Sub.cons rfl ?_)) (by repeat (first | exact SubO.nil | refine SubO.keep ?_ | refine SubO.drop rfl ?_)) ⟨by omega, fun _ => h1 (by omega), fun _ => hy⟩ (by omega)
    · refine walkB ?_
      exact k_ret1 rfl rfl fun w hw => ⟨rfl, hw.below rfl⟩
  · rw [if_pos (h1 (by omega)), h2 (by omega)]
    refine walkB ?_
    exact k_ret1 rfl rfl fun w hw => ⟨rfl, hw.below rfl⟩
theorem indId_any (v : Value) (l : List Id32) (x : Id32) (r : World) (hv : r.ownsRow 0 43 32 v l.length (l.flatMap idC)) (hn : l.length ≤ 9223372036854775807) :
    Calls Tryz.prog 48 #[v, .agg (idC x).toArray] r fun e w' => e = .returned (.int .i64 (firstX (fun y => decide (x = y)) l 0)) ∧ Below r.heap.size r w' := by
  obtain ⟨ea, cap, rfl⟩ := own_slice hv
  have hI := rowIs_own hv
  refine k_enter (N := 19) Tryz.func48 rfl rfl rfl ?_
  refine walkB ?_
  refine k_box (cs := idC x) rfl rfl rfl ?_
  intro b0
  refine walkB ?_
  refine k_loop (σ := Nat) (fun k => [(0, .slice ea l.length cap), (3, .pointer (some ⟨b0, 0, none⟩)), (7, .int .i64 l.length), (8, .int .i64 k)]) (fun _ => [bk false b0 (idC x) 43]) (fun k => k ≤ l.length ∧ firstX (fun y => decide (x = y)) (l.drop k) k = firstX (fun y => decide (x = y)) l 0) (fun k => l.length - k) 0 (by repeat (first | exact Sub.nil | refine Sub.cons rfl ?_)) (by repeat (first | exact SubO.nil | refine SubO.keep ?_ | refine SubO.drop rfl ?_)) ⟨Nat.zero_le _, rfl⟩ ?_
  rintro k ⟨hk, hC⟩
  by_cases hlt : k < l.length
  · have hcs := flat_cells idC_len (List.getElem?_eq_getElem hlt)
    rw [List.drop_eq_getElem_cons hlt, firstX] at hC
    obtain ⟨ad, hea, _⟩ := hI.2.2.2 (k * 32) _ (hcs 0 (Value.int .u8 (l[k].1[0]'(by rw [l[k].2]; omega)).toNat) (by unfold idC u8C; rw [List.getElem?_map, List.getElem?_eq_getElem (by rw [l[k].2]; omega)]; rfl))
    have hoff : ∃ g o, ea = some ⟨g, o, none⟩ := by
      rcases hv.2 with ⟨h, _⟩ | ⟨g, c, cur, h, _⟩
      · injection h with h; rw [h] at hea; cases hea
      · injection h with h; exact ⟨g, 0, h⟩
    obtain ⟨g, o, rfl⟩ := hoff
    generalize l[k] = y at hcs hC
    refine walkB ?_
    refine k_region_still (by kernel_rfl) (by kernel_rfl) ?_
    refine vwalkB ?_
    refine ks_op rfl (fun w hw => ov_ownAgg 0 hw inferInstance rfl rfl (idC_len x)) ?_
    refine vwalkB ?_
    refine ks_op rfl (fun w hw => ov_rowAgg (hI.ext (hw.below rfl)) rfl (idC_len y) hcs) ?_
    refine ks_op rfl (fun _ _ => ov_bytesEq (by kernel_rfl) rfl rfl x.2 y.2) ?_
    refine vwalkB ?_
    refine walkB ?_
    refine k_condd rfl (fun hxy => ?_) (fun hxy => ?_)
    · rw [if_pos (decide_eq_true (Subtype.ext hxy))] at hC
      refine walkB ?_
      exact k_ret1 rfl rfl fun w hw => ⟨by rw [← hC], hw.below rfl⟩
    · rw [if_neg (by simpa using fun e => hxy (by rw [e]))] at hC
      refine walkB ?_
      exact k_round (k + 1) (by repeat (first | exact Sub.nil | refine Sub.cons rfl ?_)) (by repeat (first | exact SubO.nil | refine SubO.keep ?_ | refine SubO.drop rfl ?_)) ⟨by omega, hC⟩ (by omega)
  · rw [List.drop_eq_nil_of_le (by omega), firstX] at hC
    refine walkB ?_
    exact k_ret1 rfl rfl fun w hw => ⟨by rw [← hC], hw.below rfl⟩
theorem contId_any (v : Value) (l : List Id32) (x : Id32) (r : World) (hv : r.ownsRow 0 43 32 v l.length (l.flatMap idC)) (hn : l.length ≤ 9223372036854775807) :
    Calls Tryz.prog 29 #[v, .agg (idC x).toArray] r fun e w' => e = .returned (.bool (l.any fun y => decide (x = y))) ∧ Below r.heap.size r w' := by
  rw [← firstX_any _ l 0]
  refine k_enter (N := 9) Tryz.func29 rfl rfl rfl ?_
  refine walkB ?_
  refine k_box (cs := idC x) rfl rfl rfl ?_
  intro b0
  refine walkB ?_
  refine k_op rfl (fun w hw => ov_ownAgg 0 hw inferInstance rfl rfl (idC_len x)) ?_
  refine k_callb (by kernel_rfl) rfl rfl (fun w hw => indId_any v l x w (own_ext hv (hw.below rfl)) hn) ?_
  refine walkB ?_
  exact k_ret1 rfl rfl fun w hw => ⟨rfl, hw.below rfl⟩
end Go.Proofs.YtddiecdoaggaaaaGreatDoor
namespace Go.Proofs.YtddiecdoaggaaaaGreatDoor
open Go.RowKit

/-- The orders in which a region's head may come: one operation next, or one of two. -/
inductive Tr where
  | nil : Tr
  | one (k : Nat) (t : Tr) : Tr
  | two (i : Nat) (t : Tr) (j : Nat) (u : Tr) : Tr
def cntT : Tr → Nat
  | .nil => 0
  | .one _ t => cntT t + 1
  | .two _ t _ _ => cntT t + 1
section
variable {P : Program} {md : Region.Mode} {S : World → Prop} {Q : Exit → Act → World → Prop}
def wpT (P : Program) (l : List Oper) (S : World → Prop) (F : Act → World → Prop) : Tr → Act → World → Prop
  | .nil, a, w => F a w
  | .one k t, a, w => bif stillOp (nth l k).op then ∃ v, YieldsIf P l.toArray S (nth l k) v a ∧ wpT P l S F t (a.put (nth l k).dst v) w
      else wpList P l.toArray (OnlyN fun a' w' => S w' ∧ wpT P l S F t a' w') [nth l k] a w
  | .two i t j u, a, w => wpList P l.toArray (OnlyN fun a' w' => S w' ∧ wpT P l S F t a' w') [nth l i] a w ∧ wpList P l.toArray (OnlyN fun a' w' => S w' ∧ wpT P l S F u a' w') [nth l j] a w
def headT (md : Region.Mode) (ops : Array Oper) (n : Nat) : Tr → Array Bool → Bool
  | .nil, listed => Region.seqB md ops (ops.size - n) n listed
  | .one k t, listed => Nat.blt k n && (match ops[k]? with
      | some o => bif stillOp o.op then (Region.ready md ops listed).contains k && Region.free md ops listed k else decide (Region.ready md ops listed = [k])
      | none => false) && headT md ops n t (listed.setIfInBounds k true)
  | .two i t j u, listed => !(Region.ready md ops listed).isEmpty && (Region.ready md ops listed).all (fun x => Nat.beq x i || Nat.beq x j) && (Nat.blt i n && (ops[i]?).isSome && headT md ops n t (listed.setIfInBounds i true)) && (Nat.blt j n && (ops[j]?).isSome && headT md ops n u (listed.setIfInBounds j true)) && Nat.beq (cntT u) (cntT t)
theorem hl_T {l : List Oper} {n : Nat} {F : Act → World → Prop} (hsel : Region.noSelect l.toArray = true) (hn : tailB md l.toArray n = true) :
    ∀ (t : Tr) (listed : Array Bool) (a : Act) (w : World), HeadInv md l.toArray n listed → headT md l.toArray n t listed = true → S w → wpT P l S F t a w →
    wpHL P md l.toArray S n (fun listed' a' w' => Region.seqB md l.toArray (l.toArray.size - n) n listed' = true ∧ F a' w') (cntT t) listed a w := by
  intro t
  induction t with
  | nil => intro listed a w inv hB hS h; exact ⟨hB, h⟩
  | one k t ih =>
    intro listed a w inv hB hS h
    simp only [headT, Bool.and_eq_true] at hB
    obtain ⟨⟨hk, hm⟩, hB'⟩ := hB
    have hkn : k < n := by simpa [Nat.blt_eq] using hk
    cases ho : l.toArray[k]? with
    | none => simp only [ho] at hm; cases hm
    | some o =>
      have hnth := nth_eq l k o (by simpa using ho)
      simp only [ho] at hm
      simp only [wpT, hnth] at h
      show wpHL P md l.toArray S n _ (cntT t + 1) listed a w
      cases hst : stillOp o.op with
      | true =>
        rw [hst] at hm h
        simp only [cond_true, Bool.and_eq_true] at hm h
        obtain ⟨v, hy, hK⟩ := h
        have hr : k ∈ Region.ready md l.toArray listed := by simpa using hm.1
        have := ih (listed.setIfInBounds k true) (a.put o.dst v) w (inv.set hr hkn) hB' hS hK
        exact hl_first ho (Region.noSelect_spec hsel) hn hkn (fun listed' a' w' hL => seqB_ready hL.1) (cntT t) listed a w inv (Region.free_spec ho hm.2) hr hy hS this
      | false =>
        rw [hst] at hm h
        simp only [cond_false, decide_eq_true_eq] at hm h
        refine ⟨by rw [hm]; simp, fun i hi => ?_⟩
        have hr : k ∈ Region.ready md l.toArray listed := by rw [hm]; simp
        rw [hm] at hi
        have hik : i = k := by simpa using hi
        subst hik
        refine ⟨hkn, ?_⟩
        have key : ∀ a' w', S w' ∧ wpT P l S F t a' w' → S w' ∧ wpHL P md l.toArray S n (fun listed' a' w' => Region.seqB md l.toArray (l.toArray.size - n) n listed' = true ∧ F a' w') (cntT t) (listed.setIfInBounds i true) a' w' := fun a' w' h' =>
          ⟨h'.1, ih _ a' w' (inv.set hr hkn) hB' h'.1 h'.2⟩
        unfold wpOp
        simp only [ho]
        unfold wpList at h
        split
        · rename_i hw
          rw [if_pos hw] at h
          rcases h with h | ⟨_, h⟩
          · exact .inl (Oper.wp_mono (fun a' w' h' => key a' w' h') (wp_onlyN h))
          · exact absurd h lets_onlyN
        · rename_i hw
          rw [if_neg hw] at h
          exact key _ _ h
  | two i t j u ih1 ih2 =>
    intro listed a w inv hB hS h
    simp only [headT, Bool.and_eq_true, List.all_eq_true, Bool.or_eq_true] at hB
    obtain ⟨⟨⟨⟨h1, h2⟩, ⟨hi1, hi2⟩, hi3⟩, ⟨hj1, hj2⟩, hj3⟩, hcnt⟩ := hB
    have hcnt' : cntT u = cntT t := Nat.eq_of_beq_eq_true hcnt
    show wpHL P md l.toArray S n _ (cntT t + 1) listed a w
    refine ⟨(fun e => by rw [e] at h1; cases h1), fun x hx => ?_⟩
    have gen : ∀ (y : Nat) (v : Tr), y ∈ Region.ready md l.toArray listed → (Nat.blt y n = true) → ((l.toArray[y]?).isSome = true) → (∀ (listed : Array Bool) (a : Act) (w : World), HeadInv md l.toArray n listed → headT md l.toArray n v listed = true → S w → wpT P l S F v a w →
        wpHL P md l.toArray S n (fun listed' a' w' => Region.seqB md l.toArray (l.toArray.size - n) n listed' = true ∧ F a' w') (cntT v) listed a w) → cntT v = cntT t → headT md l.toArray n v (listed.setIfInBounds y true) = true →
        wpList P l.toArray (OnlyN fun a' w' => S w' ∧ wpT P l S F v a' w') [nth l y] a w →
        y < n ∧ wpOp P l.toArray NoQ y (fun a' w' => S w' ∧ wpHL P md l.toArray S n (fun listed' a' w' => Region.seqB md l.toArray (l.toArray.size - n) n listed' = true ∧ F a' w') (cntT t) (listed.setIfInBounds y true) a' w') a w := by
      intro y v hy hyn hys ih hc hB' hw
      have hin : y < n := by simpa [Nat.blt_eq] using hyn
      refine ⟨hin, ?_⟩
      cases ho : l.toArray[y]? with
      | none => rw [ho] at hys; cases hys
      | some o =>
        have hnth := nth_eq l y o (by simpa using ho)
        rw [hnth] at hw
        have key : ∀ a' w', S w' ∧ wpT P l S F v a' w' → S w' ∧ wpHL P md l.toArray S n (fun listed' a' w' => Region.seqB md l.toArray (l.toArray.size - n) n listed' = true ∧ F a' w') (cntT t) (listed.setIfInBounds y true) a' w' := fun a' w' h' => by
          refine ⟨h'.1, ?_⟩
          have := ih _ a' w' (inv.set hy hin) hB' h'.1 h'.2
          rwa [hc] at this
        unfold wpOp
        simp only [ho]
        unfold wpList at hw
        split
        · rename_i hwn
          rw [if_pos hwn] at hw
          rcases hw with hw | ⟨_, hw⟩
          · exact .inl (Oper.wp_mono (fun a' w' h' => key a' w' h') (wp_onlyN hw))
          · exact absurd hw lets_onlyN
        · rename_i hwn
          rw [if_neg hwn] at hw
          exact key _ _ hw
    have hxx := h2 x hx
    rcases hxx with hxi | hxj
    · have : x = i := Nat.eq_of_beq_eq_true hxi
      subst this
      exact gen x t hx hi1 hi2 ih1 rfl hi3 h.1
    · have : x = j := Nat.eq_of_beq_eq_true hxj
      subst this
      exact gen x u hx hj1 hj2 ih2 hcnt' hj3 h.2
def heldTB (ops : Array Oper) (n : Nat) (t : Tr) : Bool := Region.noSelect ops && tailB .any ops n && Nat.beq (cntT t) n && headT .any ops n t (Array.replicate ops.size false)
end
section
variable {P : Program} {N : Nat} {env : Env} {r w w' : World} {O : List Own} {Q : Exit → Act → World → Prop} {l : List Oper} {S : World → Prop} {F : Act → World → Prop}
theorem j_heldTr {id : Nat} {l : List Oper} (n : Nat) (t : Tr) (S : World → Prop) (hm : P.follows .mixedOrders = true) (hB : heldTB l.toArray n t = true)
    (h : ∀ w1, Below w.heap.size w w1 → w1.heap.size = w.heap.size → S w1 ∧ J N env w1 (wpT P l S (wpList P l.toArray Q (l.drop n)) t)) : J N env w (Code.wp P (.region id l.toArray true) Q) := by
  intro a ha
  obtain ⟨hS, hj⟩ := h w.drew (below_drew w) rfl
  simp only [heldTB, Bool.and_eq_true] at hB
  obtain ⟨⟨⟨hsel, hn⟩, hlen⟩, hhead⟩ := hB
  have hlen' : cntT t = n := Nat.eq_of_beq_eq_true hlen
  have hle : n ≤ l.toArray.size := by
    unfold tailB at hn
    rw [Bool.or_eq_true] at hn
    rcases hn with hn | hn
    · exact Nat.le_of_eq (Nat.eq_of_beq_eq_true hn)
    · simp only [Bool.and_eq_true] at hn
      have : n < l.toArray.size := by simpa [Nat.blt_eq] using hn.2
      omega
  have inv0 : HeadInv .any l.toArray n (Array.replicate l.toArray.size false) :=
    ⟨by simp, fun j oj _ hl => (by rw [getD_replicate_false] at hl; cases hl), fun t _ ht => getD_in (by simpa using ht) (getD_replicate_false _ _)⟩
  have H := hl_T hsel hn t _ a w.drew inv0 hhead hS (hj a ha)
  have hdl : (l.drop n).length = l.toArray.size - n := by simp
  refine wp_region_any hm ?_
  have := any_of_hl (Q := Q) (g := l.toArray.size - n) (fun listed a' w' hL => by
    have := wpAny_of_seq (md := .any) (Q' := Q) (l.drop n) n listed a' w' (fun j => by simp [List.getElem?_drop]) (by rw [hdl]; exact hL.1) hL.2
    rwa [hdl] at this) _ _ _ _ H
  rw [hlen', show n + (l.toArray.size - n) = l.toArray.size by omega] at this
  exact this
theorem k_heldTr {id : Nat} (n : Nat) (t : Tr) (hm : P.follows .mixedOrders = true) (hB : heldTB l.toArray n t = true)
    (h : K N env r O (wpT P l (Sat r O) (wpList P l.toArray Q (l.drop n)) t)) : K N env r O (Code.wp P (.region id l.toArray true) Q) :=
  fun _ hw => j_heldTr n t (Sat r O) hm hB fun w1 hb _ => ⟨hw.ext hb, h w1 (hw.ext hb)⟩
theorem k_heldTrS {id : Nat} (n : Nat) (t : Tr) (O0 : List Own) (hs : SubO O0 O) (hm : P.follows .mixedOrders = true) (hB : heldTB l.toArray n t = true)
    (h : K N env r O (wpT P l (Sat r O0) (wpList P l.toArray Q (l.drop n)) t)) : K N env r O (Code.wp P (.region id l.toArray true) Q) :=
  fun _ hw => j_heldTr n t (Sat r O0) hm hB fun w1 hb _ => ⟨(hw.ext hb).sub hs, h w1 (hw.ext hb)⟩
theorem kt_nil (h : K N env r O F) : K N env r O (wpT P l S F .nil) := h
theorem kt_op {O0 : List Own} {k d : Nat} {t : Tr} {op : Op} {ty : TypeId} {pos : String} {after : Array Edge} {v : Value} (ho : nth l k = ⟨some d, op, ty, pos, after, none⟩) (hst : stillOp op = true) (hd : Nat.blt d N = true) (hv : ∀ w, Sat r O0 w → OV P env op w v) (h : K N ((d, v) :: env) r O (wpT P l (Sat r O0) F t)) :
    K N env r O (wpT P l (Sat r O0) F (.one k t)) := by
  intro w hw a ha
  show bif stillOp (nth l k).op then _ else _
  rw [ho]
  simp only [hst, cond_true]
  exact ⟨v, .inl ⟨by simp [Region.wanted], fun w' hS => hv w' hS a.eval (fun h => ha.ev h) _ rfl⟩, h w hw _ (ha.put hd v)⟩
theorem kt_run {k : Nat} {t : Tr} {o : Oper} (ho : nth l k = o) (hst : stillOp o.op = false) (h : K N env r O (wpList P l.toArray (OnlyN fun a' w' => S w' ∧ wpT P l S F t a' w') [o])) : K N env r O (wpT P l S F (.one k t)) := by
  intro w hw a ha
  show bif stillOp (nth l k).op then _ else _
  rw [ho, hst]
  exact h w hw a ha
theorem kt_two {i j : Nat} {t u : Tr} {o1 o2 : Oper} (h1 : nth l i = o1) (h2 : nth l j = o2) (ha : K N env r O (wpList P l.toArray (OnlyN fun a' w' => S w' ∧ wpT P l S F t a' w') [o1])) (hb : K N env r O (wpList P l.toArray (OnlyN fun a' w' => S w' ∧ wpT P l S F u a' w') [o2])) : K N env r O (wpT P l S F (.two i t j u)) := by
  intro w hw a hA
  subst h1; subst h2
  exact ⟨ha w hw a hA, hb w hw a hA⟩
theorem kt_back {t : Tr} {O0 : List Own} {ops : Array Oper} (hS : SubO O0 O) (h : K N env r O (wpT P l (Sat r O0) F t)) : K N env r O (wpList P ops (OnlyN fun a' w' => Sat r O0 w' ∧ wpT P l (Sat r O0) F t a' w') []) := fun w hw a ha => ⟨hw.sub hS, h w hw a ha⟩
end
end Go.Proofs.YtddiecdoaggaaaaGreatDoor
namespace Go.Proofs.YtddiecdoaggaaaaGreatDoor
open Go.RowKit
theorem twalkB {p q : Prop} (hq : q) (h : Box q → p := by intro hrest; (repeat (first | apply kt_nil | (apply kt_op; exact rfl; exact rfl; exact rfl; intro _ hw; first | (refine ov_indexAddr1 rfl rfl 0 rfl (by omega)) | (refine ov_indexAddr rfl rfl 0 rfl (by omega)) | (refine ov_strbyte rfl rfl (by kernel_rfl) 0 rfl (by omega)) | (refine ov_indexAddr1 rfl rfl 1 rfl (by omega)) | (refine ov_strbyte rfl rfl (by kernel_rfl) 1 rfl (by omega)) | (refine ov_strbyte rfl rfl (by kernel_rfl) _ rfl (by omega)) | (refine ov_arr1 rfl rfl _ rfl (by omega)) | (refine ov_arrE rfl rfl _ rfl (by omega)) | (refine ov_conv64 rfl ⟨by omega, by omega⟩) | (refine ov_conv8 rfl ⟨by omega, by omega⟩) | (first | (apply ov_move; exact rfl) | (apply ov_assign; exact rfl) | (apply ov_fieldAddr; exact rfl) | (apply ov_nilCheck; exact rfl) | (apply oc_lss; exact rfl; exact rfl; first | exact decide_eq_true (by omega) | exact decide_eq_false (by omega) | exact rfl) | (apply oc_leq; exact rfl; exact rfl; first | exact decide_eq_true (by omega) | exact decide_eq_false (by omega) | exact rfl) | (apply oc_gtr; exact rfl; exact rfl; first | exact decide_eq_true (by omega) | exact decide_eq_false (by omega) | exact rfl) | (apply oc_geq; exact rfl; exact rfl; first | exact decide_eq_true (by omega) | exact decide_eq_false (by omega) | exact rfl) | (apply oc_eql; exact rfl; exact rfl; first | exact decide_eq_true (by omega) | exact decide_eq_false (by omega) | exact rfl) | (apply oc_neq; exact rfl; exact rfl; first | exact decide_eq_true (by omega) | exact decide_eq_false (by omega) | exact rfl) | (apply ov_own 0 hw; infer_instance; exact rfl; exact rfl; exact rfl) | (apply ov_own 1 hw; infer_instance; exact rfl; exact rfl; exact rfl) | (apply ov_own 2 hw; infer_instance; exact rfl; exact rfl; exact rfl) | (apply ov_own 3 hw; infer_instance; exact rfl; exact rfl; exact rfl) | (apply ov_own 4 hw; infer_instance; exact rfl; exact rfl; exact rfl) | (apply ov_own 5 hw; infer_instance; exact rfl; exact rfl; exact rfl) | (apply ov_own 6 hw; infer_instance; exact rfl; exact rfl; exact rfl) | (apply ov_own 7 hw; infer_instance; exact rfl; exact rfl; exact rfl) | (apply ov_own 8 hw; infer_instance; exact rfl; exact rfl; exact rfl) | (apply ov_own 9 hw; infer_instance; exact rfl; exact rfl; exact rfl) | (apply ov_own 0 hw; infer_instance; exact rfl; exact rfl; (repeat (apply app_at; assumption; exact rfl)); exact rfl) | (apply ov_own 1 hw; infer_instance; exact rfl; exact rfl; (repeat (apply app_at; assumption; exact rfl)); exact rfl) | (apply ov_own 2 hw; infer_instance; exact rfl; exact rfl; (repeat (apply app_at; assumption; exact rfl)); exact rfl) | (apply ov_own 3 hw; infer_instance; exact rfl; exact rfl; (repeat (apply app_at; assumption; exact rfl)); exact rfl) | (apply ov_own 4 hw; infer_instance; exact rfl; exact rfl; (repeat (apply app_at; assumption; exact rfl)); exact rfl) | (apply ov_own 5 hw; infer_instance; exact rfl; exact rfl; (repeat (apply app_at; assumption; exact rfl)); exact rfl) | (apply ov_own 6 hw; infer_instance; exact rfl; exact rfl; (repeat (apply app_at; assumption; exact rfl)); exact rfl) | (apply ov_own 7 hw; infer_instance; exact rfl; exact rfl; (repeat (apply app_at; assumption; exact rfl)); exact rfl) | (apply ov_own 8 hw; infer_instance; exact rfl; exact rfl; (repeat (apply app_at; assumption; exact rfl)); exact rfl) | (apply ov_own 9 hw; infer_instance; exact rfl; exact rfl; (repeat (apply app_at; assumption; exact rfl)); exact rfl) | (apply ov_eld hw; infer_instance; exact rfl; exact rfl; assumption) | (apply ov_eldB hw; infer_instance; exact rfl; exact rfl; assumption; exact rfl) | (apply ov_eldB hw; infer_instance; exact rfl; exact rfl; assumption; (repeat (apply app_at; assumption; exact rfl)); exact rfl) | (apply ov_ownAgg 0 hw; infer_instance; exact rfl; exact rfl; first | exact rfl | assumption) | (apply ov_ownAgg 1 hw; infer_instance; exact rfl; exact rfl; first | exact rfl | assumption) | (apply ov_ownAgg 2 hw; infer_instance; exact rfl; exact rfl; first | exact rfl | assumption) | (apply ov_ownAgg 3 hw; infer_instance; exact rfl; exact rfl; first | exact rfl | assumption) | (apply ov_ownAgg 4 hw; infer_instance; exact rfl; exact rfl; first | exact rfl | assumption) | (apply ov_ownAgg 5 hw; infer_instance; exact rfl; exact rfl; first | exact rfl | assumption) | (apply ov_ownAgg 6 hw; infer_instance; exact rfl; exact rfl; first | exact rfl | assumption) | (apply ov_ownAgg 7 hw; infer_instance; exact rfl; exact rfl; first | exact rfl | assumption) | (apply ov_ownAgg 8 hw; infer_instance; exact rfl; exact rfl; first | exact rfl | assumption) | (apply ov_ownAgg 9 hw; infer_instance; exact rfl; exact rfl; first | exact rfl | assumption) | (apply ov_eldAgg hw; infer_instance; exact rfl; exact rfl; assumption; first | exact rfl | assumption) | (apply ov_pick_t; exact rfl; exact rfl) | (apply ov_pick_f; exact rfl; exact rfl) | (apply oc_pick_t; exact rfl; exact rfl; first | assumption | omega) | (apply oc_pick_f; exact rfl; exact rfl; first | assumption | omega) | (apply ov_not; exact rfl) | (apply ov_x20; exact rfl) | (apply ov_x21; exact rfl) | (apply ov_x30; exact rfl) | (apply ov_x31; exact rfl) | (apply ov_x32; exact rfl) | (apply ov_extract; exact rfl; exact rfl) | (apply ov_len_str; exact rfl) | (apply ov_len_slice; exact rfl) | (apply ov_makeFunc; exact rfl; exact rfl) | (apply ov_peql; exact rfl; exact rfl; exact (by kernel_rfl)) | (apply ov_pneq; exact rfl; exact rfl; exact (by kernel_rfl)) | (apply ov_iface; exact rfl; exact (by kernel_rfl)) | (apply oc_seql; exact rfl; exact rfl; first | exact decide_eq_true (by assumption) | exact decide_eq_false (by assumption) | exact rfl) | (apply oc_sneq; exact rfl; exact rfl; first | exact decide_eq_true (by assumption) | exact decide_eq_false (by assumption) | exact rfl) | (apply ov_add1; exact rfl; exact rfl; omega) | (apply ov_add2; exact rfl; exact rfl; omega) | (apply ov_addN; exact rfl; exact rfl; omega) | (apply ov_sub1; exact rfl; exact rfl; omega; omega) | (apply ov_add; exact rfl; exact rfl; exact ⟨by omega, by omega⟩) | (apply ov_sub; exact rfl; exact rfl; exact ⟨by omega, by omega⟩) | (refine ov_indexAddr1 rfl rfl _ rfl (by omega)) | (refine ov_indexAddr1o rfl rfl _ rfl (by omega)) | (refine ov_indexAddr rfl rfl _ rfl (by omega)) | (refine ov_strindex rfl rfl (by kernel_rfl) _ rfl (by omega)) | (refine ov_strfrom rfl rfl _ rfl (by omega)) | (refine ov_strto rfl rfl _ rfl (by omega)) | (refine ov_strslice rfl rfl rfl _ _ rfl rfl (by omega) (by omega)) | (apply ov_quo0; exact rfl; exact rfl; omega; omega; omega) | (apply ov_rem0; exact rfl; exact rfl; omega; omega))))); exact hrest.out) : p := h ⟨hq⟩
end Go.Proofs.YtddiecdoaggaaaaGreatDoor
