/- The walk of Selects. -/
import Derived.Test.YtddiecdoaggaaaaGreatDoorWildV
import Derived.Test.YtddiecdoaggaaaaGreatDoorStrs
namespace Go.Proofs.YtddiecdoaggaaaaGreatDoor
open Go.RowKit

def selGo (items : List (Nat × List Elem)) : List (List UInt8) → Bool → Bool
  | [], acc => acc
  | n :: ns, acc => if verdictP items n = 3 then false else selGo items ns (acc || decide (verdictP items n = 1))
/-- Does the list accept one of the names, and poison none? -/
def selP (items : List (Nat × List Elem)) (names : List (List UInt8)) : Bool := selGo items names false

attribute [local irreducible] J OV EV EU Blk wpList Code.wp bodyPost Exit.then Exit.inBlock Round Left Hid JS wpStill
attribute [local irreducible] verdictP
theorem selects_any (lb : Nat) (v : Value) (names : List ByteArray) (items : List (Nat × List Elem)) (w : World) (hL : ListAt w lb items) (hv : StrsAt w v names) (hs : ∀ s ∈ names, s.size ≤ 9223372036854775807) (hn : names.length ≤ 2000000) :
    Calls Tryz.prog 61 #[.pointer (some ⟨lb, 0, none⟩), v] w fun e w' => e = .returned (.bool (selP items (names.map (·.data.toList)))) ∧ Below w.heap.size w w' := by
  obtain ⟨ea, cap, rfl, _, hc⟩ := hv
  refine j_enter (N := 23) Tryz.func61 rfl rfl rfl ?_
  refine jwalk ?_
  refine j_loop (σ := Nat × Bool) (fun t => [(0, .pointer (some ⟨lb, 0, none⟩)), (5, .bool t.2), (8, .slice ea names.length cap), (9, .int .i64 names.length), (10, .int .i64 t.1)]) (fun t w' => t.1 ≤ names.length ∧ Below w.heap.size w w' ∧ selGo items ((names.drop t.1).map (·.data.toList)) t.2 = selP items (names.map (·.data.toList))) (fun t => names.length - t.1) (0, false) (Sub.cons rfl (Sub.cons rfl (Sub.cons rfl (Sub.cons rfl (Sub.cons rfl Sub.nil))))) ⟨Nat.zero_le _, Below.refl _ _, rfl⟩ ?_
  intro t w2 h
  obtain ⟨k, acc⟩ := t
  dsimp only at h ⊢
  obtain ⟨hk, hx, hC⟩ := h
  by_cases hlt : k < names.length
  · obtain ⟨b, o, rfl, hcell⟩ := hc k names[k] (by simp [hlt])
    have hcell2 := cell_ext hx hcell
    have hdk : (names.drop k).map (·.data.toList) = names[k].data.toList :: (names.drop (k + 1)).map (·.data.toList) := by
      rw [List.drop_eq_getElem_cons hlt]; rfl
    have hsz := hs names[k] (List.getElem_mem _)
    rw [hdk, selGo] at hC
    generalize names[k] = s at hcell2 hC hsz
    refine jwalk ?_
    refine j_op rfl (ov_load1 rfl hcell2) ?_
    refine jwalk ?_
    refine j_call (by kernel_rfl) rfl rfl (verdict_any lb s items w2 (hL.ext hx) hsz) ?_
    rintro e w3 ⟨rfl, hx3⟩
    refine ⟨_, rfl, ?_⟩
    have hx03 := hx.trans (hx3.mono hx.size)
    generalize verdictP items s.data.toList = vd at hC
    by_cases h1 : vd = 1
    · refine jwalk ?_
      rw [if_neg (by omega)] at hC
      refine j_round (k + 1, true) (Sub.cons rfl (Sub.cons rfl (Sub.cons rfl (Sub.cons rfl (Sub.cons rfl Sub.nil))))) ⟨by dsimp only; omega, hx03, ?_⟩ (by simp; omega)
      rw [← hC, h1]; simp
    · by_cases h3 : vd = 3
      · refine jwalk ?_
        rw [if_pos h3] at hC
        refine j_ret1 rfl rfl ⟨by rw [← hC], hx03⟩
      · refine jwalk ?_
        rw [if_neg h3] at hC
        refine j_round (k + 1, acc) (Sub.cons rfl (Sub.cons rfl (Sub.cons rfl (Sub.cons rfl (Sub.cons rfl Sub.nil))))) ⟨by dsimp only; omega, hx03, ?_⟩ (by simp; omega)
        rw [← hC]; simp [h1]
  · refine jwalk ?_
    rw [List.drop_eq_nil_of_le (by omega), List.map_nil, selGo] at hC
    refine j_ret1 rfl rfl ⟨by rw [hC], hx⟩

end Go.Proofs.YtddiecdoaggaaaaGreatDoor
