/- The walk of groupname.Compare. -/
import Derived.Test.YtdolgoplflpbgaaGreatDoorGrpA
import Derived.Test.YtdolgoplflpbgaaGreatDoorWalkJ
namespace Go.Proofs.YtdolgoplflpbgaaGreatDoor
open Go.RowKit

/-- The order of two strings. -/
def cmpS (x y : ByteArray) : Int := if Op.bytesLess x.toList y.toList = true then -1 else if (Op.bytesLess x.toList y.toList || x.toList == y.toList) = true then 0 else 1
/-- The order of two lists of strings. -/
def cmpL : List ByteArray → List ByteArray → Int
  | [], [] => 0
  | [], _ :: _ => -1
  | _ :: _, [] => 1
  | x :: l, y :: m => if cmpS x y = 0 then cmpL l m else cmpS x y
def compareG (a b : ByteArray) : Int := cmpL (piecesB dotB a) (piecesB dotB b)
theorem ov_sgtr {P : Program} {env : Env} {w : World} {x y : Operand} {t t' : TypeId} {s r : ByteArray} (hx : evx env x = some (.string s)) (hy : evx env y = some (.string r)) : OV P env (.binOp .gtr t x y t') w (.bool (!(Op.bytesLess s.toList r.toList || s.toList == r.toList))) := by
  intro ρ hρ o ho; unfold execOp; rw [ho]; simp [hρ hx, hρ hy, go_sem, binOp, Op.stringOp]
theorem cmpS_cases (x y : ByteArray) : cmpS x y = -1 ∨ cmpS x y = 0 ∨ cmpS x y = 1 := by
  unfold cmpS; split
  · exact .inl rfl
  · split
    · exact .inr (.inl rfl)
    · exact .inr (.inr rfl)
set_option maxRecDepth 100000
attribute [local irreducible] J OV EV EU Blk wpList Code.wp bodyPost Exit.then Exit.inBlock Round Left Hid JS wpStill
theorem isNaN_any (s : ByteArray) (w : World) : Calls Tryz.prog 89 #[.string s] w fun e w' => e = .returned (.bool false) ∧ w = w' := by
  refine j_enter (N := 6) Tryz.func89 rfl rfl rfl ?_
  refine jwalk ?_
  exact j_ret1 rfl rfl ⟨ret_bool (by simp), rfl⟩
theorem cmpS_any (x y : ByteArray) (w : World) : Calls Tryz.prog 75 #[.string x, .string y] w fun e w' => e = .returned (.int .i64 (cmpS x y)) ∧ w = w' := by
  refine j_enter (N := 20) Tryz.func75 rfl rfl rfl ?_
  refine jwalk ?_
  refine j_call (by kernel_rfl) rfl rfl (isNaN_any x w) ?_
  rintro e w1 ⟨rfl, rfl⟩
  refine ⟨_, rfl, ?_⟩
  refine jwalk ?_
  refine j_call (by kernel_rfl) rfl rfl (isNaN_any y w) ?_
  rintro e w1 ⟨rfl, rfl⟩
  refine ⟨_, rfl, ?_⟩
  refine jwalk ?_
  unfold cmpS
  refine j_op rfl (ov_slss rfl rfl) ?_
  cases h1 : Op.bytesLess x.toList y.toList with
  | true =>
    refine jwalk ?_
    exact j_ret1 rfl rfl ⟨rfl, rfl⟩
  | false =>
    refine jwalk ?_
    refine j_op rfl (ov_sgtr rfl rfl) ?_
    rw [h1]
    cases h2 : (x.toList == y.toList) with
    | true =>
      refine jwalk ?_
      exact j_ret1 rfl rfl ⟨rfl, rfl⟩
    | false =>
      refine jwalk ?_
      exact j_ret1 rfl rfl ⟨rfl, rfl⟩
theorem cmpL_any (v1 v2 : Value) (l m : List ByteArray) (w : World) (h1 : StrsAt w v1 l) (h2 : StrsAt w v2 m) (hn : l.length ≤ 9223372036854775807) : Calls Tryz.prog 52 #[v1, v2] w fun e w' => e = .returned (.int .i64 (cmpL l m)) ∧ w = w' := by
  obtain ⟨ea, ca, rfl, _, hca⟩ := h1
  obtain ⟨eb, cb, rfl, _, hcb⟩ := h2
  refine j_enter (N := 36) Tryz.func52 rfl rfl rfl ?_
  refine jwalk ?_
  refine j_loop (σ := Nat) (fun k => [(0, .slice ea l.length ca), (1, .slice eb m.length cb), (9, .slice ea l.length ca), (10, .int .i64 l.length), (11, .int .i64 k)]) (fun k w' => k ≤ l.length ∧ k ≤ m.length ∧ cmpL (l.drop k) (m.drop k) = cmpL l m ∧ w = w') (fun k => l.length - k) 0 (Sub.cons rfl (Sub.cons rfl (Sub.cons rfl (Sub.cons rfl (Sub.cons rfl Sub.nil))))) ⟨Nat.zero_le _, Nat.zero_le _, rfl, rfl⟩ ?_
  rintro k w2 ⟨hk, hk2, hC, rfl⟩
  by_cases hlt : k < l.length
  · obtain ⟨b, o, rfl, hcell⟩ := hca k l[k] (by simp [hlt])
    rw [List.drop_eq_getElem_cons hlt] at hC
    generalize l[k] = x at hcell hC
    by_cases hlt2 : k < m.length
    · obtain ⟨b2, o2, rfl, hcell2⟩ := hcb k m[k] (by simp [hlt2])
      rw [List.drop_eq_getElem_cons hlt2, cmpL] at hC
      generalize m[k] = y at hcell2 hC
      refine jwalk ?_
      refine j_op rfl (ov_load1 rfl hcell) ?_
      refine jwalk ?_
      refine j_op rfl (ov_load1 rfl hcell2) ?_
      refine jwalk ?_
      refine j_call (by kernel_rfl) rfl rfl (cmpS_any x y w) ?_
      rintro e w1 ⟨rfl, rfl⟩
      refine ⟨_, rfl, ?_⟩
      generalize cmpS x y = c at hC
      by_cases h0 : c = 0
      · rw [if_pos h0] at hC
        refine jwalk ?_
        refine j_round (k + 1) (Sub.cons rfl (Sub.cons rfl (Sub.cons rfl (Sub.cons rfl (Sub.cons rfl Sub.nil))))) ⟨by omega, by omega, hC, rfl⟩ (by omega)
      · rw [if_neg h0] at hC
        refine jwalk ?_
        exact j_ret1 rfl rfl ⟨by rw [hC], rfl⟩
    · rw [List.drop_eq_nil_of_le (by omega : m.length ≤ k), cmpL] at hC
      refine jwalk ?_
      refine j_op rfl (ov_load1 rfl hcell) ?_
      refine jwalk ?_
      exact j_ret1 rfl rfl ⟨by rw [← hC], rfl⟩
  · rw [List.drop_eq_nil_of_le (by omega : l.length ≤ k)] at hC
    by_cases hlt2 : k < m.length
    · rw [List.drop_eq_getElem_cons hlt2, cmpL] at hC
      refine jwalk ?_
      exact j_ret1 rfl rfl ⟨by rw [← hC], rfl⟩
    · rw [List.drop_eq_nil_of_le (by omega : m.length ≤ k), cmpL] at hC
      refine jwalk ?_
      exact j_ret1 rfl rfl ⟨by rw [← hC], rfl⟩
theorem compare_exact (a b : ByteArray) (m : Int) (w : World) (ha : a.size < 4294967281) (hb : b.size < 4294967281) (hm : w.cell? ⟨0, 0, none⟩ = some (.int .i64 m)) :
    Calls Tryz.prog 32 #[.string a, .string b] w fun e w' => e = .returned (.int .i64 (compareG a b)) ∧ ∃ o1 o2, w' = (w.alloc o1).alloc o2 := by
  have hla := piecesB_len dotB a (Nat.le_refl _)
  have hlb := piecesB_len dotB b (Nat.le_refl _)
  have hca := Lib.countB_le dotB (Nat.le_refl _) a.size a (Nat.le_refl _)
  refine j_enter (N := 10) Tryz.func32 rfl rfl rfl ?_
  refine jwalk ?_
  refine j_call (by kernel_rfl) rfl rfl (Tryz.strings_Split a dotB m w ha hm (Nat.le_refl _)) ?_
  rintro e w1 ⟨rfl, h1⟩
  refine ⟨_, rfl, ?_⟩
  have hx1 : Below w.heap.size w w1 := by rw [h1]; exact (Below.refl _ _).alloc (Nat.le_refl _) _
  have hb1 : Blk w1 w.heap.size ((piecesB dotB a).map Value.string) 9 := by
    rw [h1]; unfold Blk; show (w.heap.push _)[w.heap.size]? = _; simp [piecesB]
  refine jwalk ?_
  refine j_call (by kernel_rfl) rfl rfl (Tryz.strings_Split b dotB m w1 hb (cell_ext hx1 hm) (Nat.le_refl _)) ?_
  rintro e w2 ⟨rfl, h2⟩
  refine ⟨_, rfl, ?_⟩
  have hx2 : Below w1.heap.size w1 w2 := by rw [h2]; exact (Below.refl _ _).alloc (Nat.le_refl _) _
  have hb2 : Blk w2 w1.heap.size ((piecesB dotB b).map Value.string) 9 := by
    rw [h2]; unfold Blk; show (w1.heap.push _)[w1.heap.size]? = _; simp [piecesB]
  rw [← hla, ← hlb]
  refine jwalk ?_
  refine j_call (by kernel_rfl) rfl rfl (cmpL_any _ _ (piecesB dotB a) (piecesB dotB b) w2 (strs_of_blkG (hb1.ext hx2) rfl) (strs_of_blkG hb2 rfl) (by omega)) ?_
  rintro e w3 ⟨rfl, rfl⟩
  refine ⟨_, rfl, ?_⟩
  refine jwalk ?_
  exact j_ret1 rfl rfl ⟨rfl, _, _, by rw [h2, h1]⟩
theorem compare_any (a b : ByteArray) (m : Int) (w : World) (ha : a.size < 4294967281) (hb : b.size < 4294967281) (hm : w.cell? ⟨0, 0, none⟩ = some (.int .i64 m)) :
    Calls Tryz.prog 32 #[.string a, .string b] w fun e w' => e = .returned (.int .i64 (compareG a b)) ∧ Below w.heap.size w w' :=
  (compare_exact a b m w ha hb hm).mono fun e w' ⟨h, o1, o2, h2⟩ => ⟨h, by rw [h2]; exact ((Below.refl _ _).alloc (Nat.le_refl _) _).trans (((Below.refl _ _).alloc (Nat.le_refl _) _).mono (by simp))⟩
end Go.Proofs.YtdolgoplflpbgaaGreatDoor
