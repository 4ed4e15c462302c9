/- Identities of 32 bytes: comparisons, searches. -/
import Derived.Test.YtddiecdoaggaaaaDoorWalkB
import Derived.Test.YtddiecdoaggaaaaDoorTypes2
import Derived.Test.YtddiecdoaggaaaaDoorBase
import Derived.Test.YtddiecdoaggaaaaDoorStrs
import Derived.Test.YtddiecdoaggaaaaDoorShelf
import Derived.Test.YtddiecdoaggaaaaDoorMerge
import Derived.Test.YtddiecdoaggaaaaDoorBCmp
import Derived.Test.YtddiecdoaggaaaaDoorSortK
import Derived.Stop.BytesEq
namespace Go.Proofs.YtddiecdoaggaaaaDoor
open Go.RowKit Go.Sort

abbrev Id32 := { l : List UInt8 // l.length = 32 }
instance : Inhabited Id32 := ⟨⟨List.replicate 32 0, by simp⟩⟩
def idC (x : Id32) : List Value := u8C x.1
theorem u8C_len (l : List UInt8) : (u8C l).length = l.length := by simp [u8C]
theorem idC_len (x : Id32) : (idC x).length = 32 := by rw [idC, u8C_len, x.2]
theorem u8C_one (l : List UInt8) : (u8C l).all (·.oneCell') = true := by unfold u8C; rw [List.all_map]; exact List.all_eq_true.2 fun _ _ => rfl
theorem idC_one (x : Id32) : (idC x).all (·.oneCell') = true := u8C_one _
/-- The place of the first element with p, or -1. -/
def firstX {α : Type} (p : α → Bool) : List α → Nat → Int
  | [], _ => -1
  | x :: l, i => if p x then (i : Int) else firstX p l (i + 1)
theorem firstX_any {α : Type} (p : α → Bool) : ∀ (l : List α) (i : Nat), decide (0 ≤ firstX p l i) = l.any p
  | [], i => rfl
  | x :: l, i => by
    rw [firstX, List.any_cons]
    cases hp : p x with
    | true => rw [if_pos rfl]; simp
    | false => rw [if_neg (by simp), firstX_any p l (i + 1)]; simp
section
variable {P : Program} {N : Nat} {env : Env} {r w : World} {O : List Own} {Q : Exit → Act → World → Prop} {ops : Array Oper} {rest : List Oper} {d : Nat} {ty : TypeId} {pos : String} {after : Array Edge} {v : Value}
/-- A whole array as a slice. -/
theorem ov_arrall {x : Operand} {t e : TypeId} {b off n sz : Nat} [ht : TArr P t n e] [hsz : TSize P e sz] (hx : evx env x = some (.pointer (some ⟨b, off, none⟩))) : OV P env (.slice t x none none none) w (.slice (some ⟨b, off, none⟩) n n) := by
  intro ρ hρ o ho; unfold execOp; rw [ho]
  have he : P.elem t = e := by simp [Program.elem, ht.eq]
  have hl : P.arrayLen t = n := by simp [Program.arrayLen, ht.eq]
  have := run_sliceAt_array_all (P := P) w t ⟨b, off, none⟩ (by rw [he, hl]; exact ht.eq)
  rw [hl, he, hsz.run] at this
  simp only [hρ hx, Option.map_none, Sem.run_bind, this, Result.andThen_ok, Sem.run_pure, slicedAt, Nat.zero_mul, Nat.sub_zero, Addr.add, if_true, ite_self]
/-- Two arrays of bytes. -/
theorem ov_bytesEq {x y : Operand} {t t' e : TypeId} {n : Nat} [ht : TArr P t n e] [he : TIntK P e .u8] [hsz : TSize P e 1] {a b : List UInt8} (hg : P.eqGuardType P.depth t = false) (hx : evx env x = some (.agg (u8C a).toArray)) (hy : evx env y = some (.agg (u8C b).toArray)) (ha : a.length = n) (hb : b.length = n) :
    OV P env (.binOp .eql t x y t') w (.bool (decide (a = b))) := by
  intro ρ hρ o ho; unfold execOp; rw [ho]
  have h := run_eql_bytes (P := P) w t e n ht.eq he.eq hsz.run a b ha hb
  have e1 : (a == b) = decide (a = b) := by rw [Bool.eq_iff_iff]; simp
  rw [e1] at h
  simp only [hρ hx, hρ hy, Sem.run_bind]
  rw [run_eqGuard_agg w .eql t x y _ _ hg]
  simp only [Result.andThen_ok]
  rw [show ((u8C a).toArray : Array Value) = (a.map Extern.Stop.cell).toArray from rfl, show ((u8C b).toArray : Array Value) = (b.map Extern.Stop.cell).toArray from rfl]
  simp only [h, Result.andThen_ok, Sem.run_pure]
theorem ov_bytesNe {x y : Operand} {t t' e : TypeId} {n : Nat} [ht : TArr P t n e] [he : TIntK P e .u8] [hsz : TSize P e 1] {a b : List UInt8} (hg : P.eqGuardType P.depth t = false) (hx : evx env x = some (.agg (u8C a).toArray)) (hy : evx env y = some (.agg (u8C b).toArray)) (ha : a.length = n) (hb : b.length = n) :
    OV P env (.binOp .neq t x y t') w (.bool (!decide (a = b))) := by
  intro ρ hρ o ho; unfold execOp; rw [ho]
  have h := run_equalIn_bytes (P := P) w 9998 t e n ht.eq he.eq hsz.run a b ha hb
  have e1 : (a == b) = decide (a = b) := by rw [Bool.eq_iff_iff]; simp
  rw [e1] at h
  simp only [hρ hx, hρ hy, Sem.run_bind]
  rw [run_eqGuard_agg w .neq t x y _ _ hg]
  simp only [Result.andThen_ok]
  rw [show ((u8C a).toArray : Array Value) = (a.map Extern.Stop.cell).toArray from rfl, show ((u8C b).toArray : Array Value) = (b.map Extern.Stop.cell).toArray from rfl, run_neq_struct, h]
  simp
/-- An element of several cells, as a value. -/
theorem ov_rowAgg {x : Operand} {t : TypeId} {b o i n cap sz : Nat} {cs c : List Value} [ht : TAgg P t true] [hs : TSize P t sz] (hI : RowIs w (some ⟨b, o, none⟩) n cap sz cs) (hx : evx env x = some (.pointer (some ⟨b, o + i * sz, none⟩))) (hl : c.length = sz) (hc : ∀ j u, c[j]? = some u → cs[i * sz + j]? = some u) : OV P env (.load t x) w (.agg c.toArray) :=
  ov_loadAgg hx hl fun j u hj => by rw [addr_add, Nat.add_assoc]; exact hI.cell (hc j u hj)
end
theorem flat_cells {α : Type} {enc : α → List Value} {k : Nat} (hk : ∀ x, (enc x).length = k) {d : List α} {i : Nat} {x : α} (hi : d[i]? = some x) : ∀ j u, (enc x)[j]? = some u → (d.flatMap enc)[i * k + j]? = some u := fun j u hj => by
  rw [flat_at hk hi (by rw [← hk x]; exact (List.getElem?_eq_some_iff.1 hj).1)]; exact hj
set_option maxRecDepth 100000
attribute [local irreducible] K KS KLeft KRound J OV EV EU Blk wpList Code.wp bodyPost Exit.then Exit.inBlock Round Left Hid JS wpStill wpHeld Calls
theorem cmpI_any (x y : Int) (w : World) : Calls Tryd.prog 41 #[.int .i64 x, .int .i64 y] w fun e w' => e = .returned (.int .i64 (Lib.compareInt x y)) ∧ Below w.heap.size w w' :=
  (Tryd.cmp_Compare_int x y w).mono fun e w' h => ⟨h.1, h.2 ▸ Below.refl _ _⟩
theorem bcmp_any (x y : List UInt8) (a b : Addr) (n m c d : Nat) (r : World) (hn : n = x.length) (hm : m = y.length) (ha : ∀ j u, (u8C x)[j]? = some u → r.cell? (a.add j) = some u) (hb : ∀ j u, (u8C y)[j]? = some u → r.cell? (b.add j) = some u) :
    Calls Tryd.prog 42 #[.slice (some a) n c, .slice (some b) m d] r fun e w' => e = .returned (.int .i64 (Lib.compareBytes x y)) ∧ Below r.heap.size r w' := by
  subst hn hm
  refine k_enter (N := 8) Tryd.func42 rfl rfl rfl ?_
  refine walkB ?_
  refine k_op rfl (fun w hw => ov_extern (e := Extern.BytealgCompare.compare) Tryd.func62 (by kernel_rfl) (by kernel_rfl) (by kernel_rfl) (by kernel_rfl) rfl (run_compareSlices (fun j u h => cell_ext (hw.below rfl) (ha j u h)) (fun j u h => cell_ext (hw.below rfl) (hb j u h)))) ?_
  refine walkB ?_
  exact k_ret1 rfl rfl fun w hw => ⟨rfl, hw.below rfl⟩
theorem or2_any (b : Nat) (t : TypeId) (x y : Int) (r : World) (hb : Blk r b [.int .i64 x, .int .i64 y] t) : Calls Tryd.prog 40 #[.slice (some ⟨b, 0, none⟩) 2 2] r fun e w' => e = .returned (.int .i64 (if x = 0 then y else x)) ∧ Below r.heap.size r w' := by
  refine k_enter (N := 18) Tryd.func40 rfl rfl rfl ?_
  refine walkB ?_
  refine k_loop (σ := Nat) (fun k => [(0, .slice (some ⟨b, 0, none⟩) 2 2), (3, .int .i64 0), (6, .slice (some ⟨b, 0, none⟩) 2 2), (7, .int .i64 2), (8, .int .i64 k)]) (fun _ => []) (fun k => k ≤ 2 ∧ (1 ≤ k → x = 0) ∧ (2 ≤ k → y = 0)) (fun k => 2 - k) 0 (by repeat (first | exact Sub.nil | refine Sub.cons rfl ?_)) (by repeat (first | exact SubO.nil | refine SubO.keep ?_ | refine SubO.drop rfl ?_)) ⟨by omega, by omega, by omega⟩ ?_
  rintro k ⟨hk, h1, h2⟩
  rcases (by omega : k = 0 ∨ k = 1 ∨ k = 2) with rfl | rfl | rfl
  · by_cases hx : x = 0
    · refine walkB ?_
      exact k_round 1 (by repeat (first | exact Sub.nil | refine Sub.cons rfl ?_)) (by repeat (first | exact SubO.nil | refine SubO.keep ?_ | refine SubO.drop rfl ?_)) ⟨by omega, fun _ => hx, by omega⟩ (by omega)
    · rw [if_neg hx]
      refine walkB ?_
      exact k_ret1 rfl rfl fun w hw => ⟨rfl, hw.below rfl⟩
  · rw [if_pos (h1 (by omega))]
    by_cases hy : y = 0
    · refine walkB ?_
      exact k_round 2 (by repeat (first | exact Sub.nil | refine Sub.cons rfl ?_)) (by repeat (first | exact SubO.nil | refine SubO.keep ?_ | refine SubO.drop rfl ?_)) ⟨by omega, fun _ => h1 (by omega), fun _ => hy⟩ (by omega)
    · refine walkB ?_
      exact k_ret1 rfl rfl fun w hw => ⟨rfl, hw.below rfl⟩
  · rw [if_pos (h1 (by omega)), h2 (by omega)]
    refine walkB ?_
    exact k_ret1 rfl rfl fun w hw => ⟨rfl, hw.below rfl⟩
theorem indId_any (v : Value) (l : List Id32) (x : Id32) (r : World) (hv : r.ownsRow 0 37 32 v l.length (l.flatMap idC)) (hn : l.length ≤ 9223372036854775807) :
    Calls Tryd.prog 63 #[v, .agg (idC x).toArray] r fun e w' => e = .returned (.int .i64 (firstX (fun y => decide (x = y)) l 0)) ∧ Below r.heap.size r w' := by
  obtain ⟨ea, cap, rfl⟩ := own_slice hv
  have hI := rowIs_own hv
  refine k_enter (N := 19) Tryd.func63 rfl rfl rfl ?_
  refine walkB ?_
  refine k_box (cs := idC x) rfl rfl rfl ?_
  intro b0
  refine walkB ?_
  refine k_loop (σ := Nat) (fun k => [(0, .slice ea l.length cap), (3, .pointer (some ⟨b0, 0, none⟩)), (7, .int .i64 l.length), (8, .int .i64 k)]) (fun _ => [bk false b0 (idC x) 37]) (fun k => k ≤ l.length ∧ firstX (fun y => decide (x = y)) (l.drop k) k = firstX (fun y => decide (x = y)) l 0) (fun k => l.length - k) 0 (by repeat (first | exact Sub.nil | refine Sub.cons rfl ?_)) (by repeat (first | exact SubO.nil | refine SubO.keep ?_ | refine SubO.drop rfl ?_)) ⟨Nat.zero_le _, rfl⟩ ?_
  rintro k ⟨hk, hC⟩
  by_cases hlt : k < l.length
  · have hcs := flat_cells idC_len (List.getElem?_eq_getElem hlt)
    rw [List.drop_eq_getElem_cons hlt, firstX] at hC
    obtain ⟨ad, hea, _⟩ := hI.2.2.2 (k * 32) _ (hcs 0 (Value.int .u8 (l[k].1[0]'(by rw [l[k].2]; omega)).toNat) (by unfold idC u8C; rw [List.getElem?_map, List.getElem?_eq_getElem (by rw [l[k].2]; omega)]; rfl))
    have hoff : ∃ g o, ea = some ⟨g, o, none⟩ := by
      rcases hv.2 with ⟨h, _⟩ | ⟨g, c, cur, h, _⟩
      · injection h with h; rw [h] at hea; cases hea
      · injection h with h; exact ⟨g, 0, h⟩
    obtain ⟨g, o, rfl⟩ := hoff
    generalize l[k] = y at hcs hC
    refine walkB ?_
    refine k_region_still (by kernel_rfl) (by kernel_rfl) ?_
    refine vwalkB ?_
    refine ks_op rfl (fun w hw => ov_ownAgg 0 hw inferInstance rfl rfl (idC_len x)) ?_
    refine vwalkB ?_
    refine ks_op rfl (fun w hw => ov_rowAgg (hI.ext (hw.below rfl)) rfl (idC_len y) hcs) ?_
    refine ks_op rfl (fun _ _ => ov_bytesEq (by kernel_rfl) rfl rfl x.2 y.2) ?_
    refine vwalkB ?_
    refine walkB ?_
    refine k_condd rfl (fun hxy => ?_) (fun hxy => ?_)
    · rw [if_pos (decide_eq_true (Subtype.ext hxy))] at hC
      refine walkB ?_
      exact k_ret1 rfl rfl fun w hw => ⟨by rw [← hC], hw.below rfl⟩
    · rw [if_neg (by simpa using fun e => hxy (by rw [e]))] at hC
      refine walkB ?_
      exact k_round (k + 1) (by repeat (first | exact Sub.nil | refine Sub.cons rfl ?_)) (by repeat (first | exact SubO.nil | refine SubO.keep ?_ | refine SubO.drop rfl ?_)) ⟨by omega, hC⟩ (by omega)
  · rw [List.drop_eq_nil_of_le (by omega), firstX] at hC
    refine walkB ?_
    exact k_ret1 rfl rfl fun w hw => ⟨by rw [← hC], hw.below rfl⟩
theorem contId_any (v : Value) (l : List Id32) (x : Id32) (r : World) (hv : r.ownsRow 0 37 32 v l.length (l.flatMap idC)) (hn : l.length ≤ 9223372036854775807) :
    Calls Tryd.prog 43 #[v, .agg (idC x).toArray] r fun e w' => e = .returned (.bool (l.any fun y => decide (x = y))) ∧ Below r.heap.size r w' := by
  rw [← firstX_any _ l 0]
  refine k_enter (N := 9) Tryd.func43 rfl rfl rfl ?_
  refine walkB ?_
  refine k_box (cs := idC x) rfl rfl rfl ?_
  intro b0
  refine walkB ?_
  refine k_op rfl (fun w hw => ov_ownAgg 0 hw inferInstance rfl rfl (idC_len x)) ?_
  refine k_callb (by kernel_rfl) rfl rfl (fun w hw => indId_any v l x w (own_ext hv (hw.below rfl)) hn) ?_
  refine walkB ?_
  exact k_ret1 rfl rfl fun w hw => ⟨rfl, hw.below rfl⟩
end Go.Proofs.YtddiecdoaggaaaaDoor
