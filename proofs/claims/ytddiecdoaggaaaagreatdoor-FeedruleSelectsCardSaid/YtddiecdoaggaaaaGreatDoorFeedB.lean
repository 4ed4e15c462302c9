/- The walk of Rule.Check. -/
import Derived.Test.YtddiecdoaggaaaaGreatDoorFeedA
namespace Go.Proofs.YtddiecdoaggaaaaGreatDoor
open Go.RowKit

def distsGo : List ByteArray → List ByteArray → Nat
  | [], _ => 0
  | s :: l, prev => if distP s.data.toList then if Lib.containsS prev s then 7 else distsGo l (prev ++ [s]) else 12
/-- The first error of a rule. -/
def checkP (nb pats : List UInt8) (mb dl : Int) (dists : List ByteArray) : Nat :=
  if (siteRes nb).2 ≠ 0 then (siteRes nb).2
  else match parseP pats with
    | .inr c => c
    | .inl _ => if mb < 0 ∨ 65536 < mb ∨ dl < 0 ∨ 20160 < dl then 2 else if 8 < dists.length then 9 else distsGo dists []
theorem check_site {nb pats : List UInt8} {mb dl : Int} {dists : List ByteArray} (h : (siteRes nb).2 ≠ 0) : checkP nb pats mb dl dists = (siteRes nb).2 := by unfold checkP; rw [if_pos h]
theorem check_pats {nb pats : List UInt8} {mb dl : Int} {dists : List ByteArray} {c : Nat} (h : (siteRes nb).2 = 0) (hp : parseP pats = .inr c) : checkP nb pats mb dl dists = c := by unfold checkP; rw [if_neg (by omega), hp]
theorem check_rest {nb pats : List UInt8} {mb dl : Int} {dists : List ByteArray} {items : List (Nat × List Elem)} (h : (siteRes nb).2 = 0) (hp : parseP pats = .inl items) : checkP nb pats mb dl dists = if mb < 0 ∨ 65536 < mb ∨ dl < 0 ∨ 20160 < dl then 2 else if 8 < dists.length then 9 else distsGo dists [] := by unfold checkP; rw [if_neg (by omega), hp]
theorem parseGo_err {c : Nat} : ∀ (ps : List (List UInt8)) (items : List (Nat × List Elem)), parseGo ps items = .inr c → c ≠ 0 := by
  intro ps
  induction ps with
  | nil => intro items h; simp [parseGo] at h
  | cons p ps ih =>
    intro items h
    unfold parseGo at h
    split at h
    · simp at h; omega
    · split at h
      · rename_i he
        simp at h; subst h; exact compP_err he
      · exact ih _ h
theorem parseP_err {l : List UInt8} {c : Nat} (h : parseP l = .inr c) : c ≠ 0 := by
  unfold parseP at h
  split at h
  · simp at h; omega
  · exact parseGo_err _ _ h

attribute [local irreducible] J OV EV EU Blk wpList Code.wp bodyPost Exit.then Exit.inBlock Round Left Hid JS wpStill
attribute [local irreducible] siteRes parseP distP checkP distsGo
set_option maxHeartbeats 1600000 in
theorem check_any (nb pats : ByteArray) (mb dl : Int) (dv : Value) (dists : List ByteArray) (m : Int) (w : World) (hnb : nb.size ≤ 2000000) (hps : pats.size ≤ 2000000) (hd : StrsAt w dv dists) (hds : ∀ s ∈ dists, s.size ≤ 9223372036854775807) (hdn : dists.length ≤ 2000000) (hm : w.cell? ⟨0, 0, none⟩ = some (.int .i64 m)) :
    Calls Tryz.prog 11 #[.agg #[.string nb, .string pats, .int .i64 mb, .int .i64 dl, dv]] w fun e w' => e = .returned (.int .i64 (checkP nb.data.toList pats.data.toList mb dl dists)) ∧ Below w.heap.size w w' := by
  have hdv : dv.cells = #[dv] := by obtain ⟨_, _, rfl, _⟩ := hd; rfl
  refine j_enter (N := 71) Tryz.func11 rfl rfl rfl ?_
  refine jwalk ?_
  refine j_new rfl (ev_box rfl) ?_
  intro w1 hb1 hx1 hz1
  replace hb1 : Blk w1 w.heap.size [.string nb, .string pats, .int .i64 mb, .int .i64 dl, dv] 26 := by
    exact hb1
  have hd1 := hd.ext hx1
  have hm1 := cell_ext hx1 hm
  refine jwalk ?_
  refine j_op rfl (ov_load1 rfl (hb1.cell (i := 0) rfl)) ?_
  refine jwalk ?_
  refine j_call (by kernel_rfl) rfl rfl (Site_any nb w1 (by unfold maxLen; omega)) ?_
  rintro e w2 ⟨rfl, rfl⟩
  refine ⟨_, rfl, ?_⟩
  by_cases hs0 : (siteRes nb.data.toList).2 = 0
  · refine jwalk ?_
    refine j_op rfl (ov_load1 rfl (hb1.cell (i := 1) rfl)) ?_
    refine jwalk ?_
    refine j_call (by kernel_rfl) rfl rfl (parseList_any pats m w1 hps hm1) ?_
    rintro e w2 ⟨hx2, hE⟩
    have hb2 := hb1.ext hx2
    have hd2 := hd1.ext hx2
    have hx02 := hx1.trans (hx2.mono hx1.size)
    cases hP : parseP pats.data.toList with
    | inr c =>
      rw [hP] at hE
      obtain ⟨i, rfl⟩ := hE
      refine ⟨_, rfl, ?_⟩
      have hc0 := parseP_err hP
      refine jwalk ?_
      refine j_ret1 rfl rfl ⟨by rw [check_pats hs0 hP], hx02⟩
    | inl items =>
      rw [hP] at hE
      obtain ⟨lb, _, _, rfl⟩ := hE
      refine ⟨_, rfl, ?_⟩
      rw [check_rest hs0 hP]
      have l2 := fun {x : Operand} {env : Env} (hx : evx env x = some (.pointer (some ⟨w.heap.size, 2, none⟩))) => ov_load1 (P := Tryz.prog) (t := 3) hx (hb2.cell (i := 2) rfl)
      have l3 := fun {x : Operand} {env : Env} (hx : evx env x = some (.pointer (some ⟨w.heap.size, 3, none⟩))) => ov_load1 (P := Tryz.prog) (t := 3) hx (hb2.cell (i := 3) rfl)
      by_cases h1 : mb < 0
      · rw [if_pos (.inl h1)]
        refine jwalk ?_
        refine j_op rfl (l2 rfl) ?_
        refine jwalk ?_
        refine j_ret1 rfl rfl ⟨rfl, hx02⟩
      by_cases h2 : 65536 < mb
      · rw [if_pos (.inr (.inl h2))]
        refine jwalk ?_
        refine j_op rfl (l2 rfl) ?_
        refine jwalk ?_
        refine j_op rfl (l2 rfl) ?_
        refine jwalk ?_
        refine j_ret1 rfl rfl ⟨rfl, hx02⟩
      by_cases h3 : dl < 0
      · rw [if_pos (.inr (.inr (.inl h3)))]
        refine jwalk ?_
        refine j_op rfl (l2 rfl) ?_
        refine jwalk ?_
        refine j_op rfl (l2 rfl) ?_
        refine jwalk ?_
        refine j_op rfl (l3 rfl) ?_
        refine jwalk ?_
        refine j_ret1 rfl rfl ⟨rfl, hx02⟩
      by_cases h4 : 20160 < dl
      · rw [if_pos (.inr (.inr (.inr h4)))]
        refine jwalk ?_
        refine j_op rfl (l2 rfl) ?_
        refine jwalk ?_
        refine j_op rfl (l2 rfl) ?_
        refine jwalk ?_
        refine j_op rfl (l3 rfl) ?_
        refine jwalk ?_
        refine j_op rfl (l3 rfl) ?_
        refine jwalk ?_
        refine j_ret1 rfl rfl ⟨rfl, hx02⟩
      rw [if_neg (by omega)]
      refine jwalk ?_
      refine j_op rfl (l2 rfl) ?_
      refine jwalk ?_
      refine j_op rfl (l2 rfl) ?_
      refine jwalk ?_
      refine j_op rfl (l3 rfl) ?_
      refine jwalk ?_
      refine j_op rfl (l3 rfl) ?_
      refine jwalk ?_
      refine j_op rfl (ov_load1 rfl (hb2.cell (i := 4) rfl)) ?_
      have hx3 := hx02
      obtain ⟨ea, cap, hdve⟩ : ∃ ea cap, dv = .slice ea dists.length cap := by obtain ⟨ea, cap, h, _⟩ := hd2; exact ⟨ea, cap, h⟩
      subst hdve
      by_cases h8 : 8 < dists.length
      · rw [if_pos h8]
        refine jwalk ?_
        refine j_ret1 rfl rfl ⟨rfl, hx02⟩
      rw [if_neg h8]
      refine jwalk ?_
      refine j_op rfl (ov_load1 rfl (hb2.cell (i := 4) rfl)) ?_
      refine jwalk ?_
      refine j_loop (σ := Nat) (fun k => [(1, .pointer (some ⟨w.heap.size, 0, none⟩)), (52, .slice ea dists.length cap), (53, .int .i64 dists.length), (54, .int .i64 k)]) (fun k w' => k ≤ dists.length ∧ distsGo (dists.drop k) (dists.take k) = distsGo dists [] ∧ w2 = w') (fun k => dists.length - k) 0 (Sub.cons rfl (Sub.cons rfl (Sub.cons rfl (Sub.cons rfl Sub.nil)))) ⟨Nat.zero_le _, rfl, rfl⟩ ?_
      rintro k w3 ⟨hk, hC, rfl⟩
      by_cases hlt : k < dists.length
      · have htk := hd2.take k hk
        obtain ⟨ea', cap', he, htk⟩ := htk
        cases he
        obtain ⟨ea', cap', he, ⟨hcap, _⟩, hcs⟩ := hd2
        cases he
        obtain ⟨b, o, rfl, hcell⟩ := hcs k dists[k] (by simp [hlt])
        have hsz := hds dists[k] (List.getElem_mem _)
        rw [List.drop_eq_getElem_cons hlt, distsGo] at hC
        have hsn : dists.take (k + 1) = dists.take k ++ [dists[k]] := by rw [List.take_add_one]; simp [hlt]
        rw [← hsn] at hC
        have htl : (dists.take k).length ≤ 2000000 := by rw [List.length_take]; omega
        generalize dists[k] = s at hcell hsz hC
        refine jwalk ?_
        refine j_op rfl (ov_load1 rfl hcell) ?_
        refine jwalk ?_
        refine j_call (by kernel_rfl) rfl rfl (distribution_any s w2 hsz) ?_
        rintro e w4 ⟨rfl, rfl⟩
        refine ⟨_, rfl, ?_⟩
        cases hD : distP s.data.toList with
        | false =>
          refine jwalk ?_
          rw [if_neg (by rw [hD]; simp)] at hC
          refine j_ret1 rfl rfl ⟨by rw [← hC]; rfl, hx02⟩
        | true =>
          rw [if_pos hD] at hC
          refine jwalk ?_
          refine j_op rfl (ov_load1 rfl (hb2.cell (i := 4) rfl)) ?_
          refine jwalk ?_
          refine j_op rfl (ov_sliceto rfl rfl k rfl (by omega)) ?_
          refine jwalk ?_
          refine j_call (by kernel_rfl) rfl rfl (contains_any _ (dists.take k) s w2 htk htl) ?_
          rintro e w4 ⟨rfl, rfl⟩
          refine ⟨_, rfl, ?_⟩
          cases hS : Lib.containsS (dists.take k) s with
          | true =>
            rw [if_pos hS] at hC
            refine jwalk ?_
            refine j_ret1 rfl rfl ⟨by rw [← hC]; rfl, hx02⟩
          | false =>
            rw [if_neg (by rw [hS]; simp)] at hC
            refine jwalk ?_
            refine j_round (k + 1) (Sub.cons rfl (Sub.cons rfl (Sub.cons rfl (Sub.cons rfl Sub.nil)))) ⟨by omega, hC, rfl⟩ (by omega)
      · refine jwalk ?_
        rw [List.drop_eq_nil_of_le (by omega), distsGo] at hC
        refine j_ret1 rfl rfl ⟨by rw [← hC]; rfl, hx02⟩
  · refine jwalk ?_
    refine j_ret1 rfl rfl ⟨by rw [check_site hs0], hx1⟩

end Go.Proofs.YtddiecdoaggaaaaGreatDoor
