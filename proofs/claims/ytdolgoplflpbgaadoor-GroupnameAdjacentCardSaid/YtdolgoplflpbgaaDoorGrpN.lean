/- GroupnameAdjacent answers true for every input. -/
import Derived.Test.YtdolgoplflpbgaaDoorGrpW
namespace Go.Proofs.YtdolgoplflpbgaaDoor
open Go.RowKit Go.Sort

set_option maxRecDepth 100000
attribute [local irreducible] K KS KLeft KRound J OV EV EU Blk wpList Code.wp bodyPost Exit.then Exit.inBlock Round Left Hid JS wpStill wpHeld Calls
attribute [local irreducible] compareG withinG checkG
theorem lawAdjacent_any (a b c h : ByteArray) (m : Int) (r : World) (hm : r.cell? ⟨0, 0, none⟩ = some (.int .i64 m)) : Calls Tryd.prog 6 #[.string a, .string b, .string c, .string h] r fun e w' => e = .returned (.bool true) ∧ Below r.heap.size r w' := by
  refine k_enter (N := 63) Tryd.func6 rfl rfl rfl ?_
  refine walkB ?_
  refine k_callb (by kernel_rfl) rfl rfl (fun w hw => known_any m w (cell_ext (hw.below rfl) hm)) ?_
  refine walkB ?_
  refine k_lit (vs := [.string a, .string b, .string c, .string h]) rfl rfl rfl rfl rfl rfl rfl ?_
  intro b0
  refine walkB ?_
  refine k_callb (v := .bool ([a, b, c, h].all fun s => decide (s.size ≤ 120))) (by kernel_rfl) rfl rfl (fun w hw => short_any _ [a, b, c, h] w (by exact strs_of_blkG (l := [a, b, c, h]) (hw.blk 0 rfl) rfl) (by decide : 4 ≤ 9223372036854775807)) ?_
  cases hs : [a, b, c, h].all fun s => decide (s.size ≤ 120) with
  | false =>
    refine walkB ?_
    refine k_callb (by kernel_rfl) rfl rfl (fun w hw => known_any m w (cell_ext (hw.below rfl) hm)) ?_
    refine walkB ?_
    exact k_ret1 rfl rfl fun w hw => ⟨rfl, hw.below rfl⟩
  | true =>
    simp only [List.all_cons, List.all_nil, Bool.and_true, Bool.and_eq_true, decide_eq_true_eq] at hs
    obtain ⟨ha, hb, hc, hh⟩ := hs
    have hwc := within_cmp (n := a) (h := h)
    have hwb := within_between (a := a) (b := b) (c := c) (h := h)
    refine walkB ?_
    apply k_join (σ := Unit) (fun _ => [(0, .string a), (1, .string b), (2, .string c), (3, .string h), (31, .string b)]) (fun _ => []) (fun _ => True)
    · intro key
      refine k_callb (by kernel_rfl) rfl rfl (fun w hw => within_any a h m w (by omega) (by omega) (cell_ext (hw.below rfl) hm)) ?_
      cases h1 : withinG a h with
      | true =>
        have h2 := hwc h1
        refine walkB ?_
        refine k_callb (by kernel_rfl) rfl rfl (fun w hw => compare_any h a m w (by omega) (by omega) (cell_ext (hw.below rfl) hm)) ?_
        refine walkB ?_
        exact key _ _ () (by repeat (first | exact Sub.nil | refine Sub.cons rfl ?_)) (by repeat (first | exact SubO.nil | refine SubO.keep ?_ | refine SubO.drop rfl ?_)) trivial
      | false =>
        refine walkB ?_
        exact key _ _ () (by repeat (first | exact Sub.nil | refine Sub.cons rfl ?_)) (by repeat (first | exact SubO.nil | refine SubO.keep ?_ | refine SubO.drop rfl ?_)) trivial
    clear hwc
    rintro ⟨⟩ -
    refine k_callb (v := .int .i64 (checkG b)) (by kernel_rfl) rfl rfl (fun w hw => refCheckG_any b w (by omega)) ?_
    rcases Decidable.em (checkG b = 0) with h1 | h1
    · have hwb := hwb h1
      rw [h1]
      refine walkB ?_
      refine k_callb (by kernel_rfl) rfl rfl (fun w hw => compare_any a b m w (by omega) (by omega) (cell_ext (hw.below rfl) hm)) ?_
      generalize compareG a b = x at hwb
      rcases Decidable.em (x ≤ 0) with h2 | h2
      · have hwb := hwb h2
        refine walkB ?_
        refine k_callb (by kernel_rfl) rfl rfl (fun w hw => compare_any b c m w (by omega) (by omega) (cell_ext (hw.below rfl) hm)) ?_
        generalize compareG b c = y at hwb
        rcases Decidable.em (y ≤ 0) with h3 | h3
        · have hwb := hwb h3
          refine walkB ?_
          refine k_callb (by kernel_rfl) rfl rfl (fun w hw => within_any a h m w (by omega) (by omega) (cell_ext (hw.below rfl) hm)) ?_
          cases h4 : withinG a h with
          | true =>
            have hwb := hwb h4
            refine walkB ?_
            refine k_callb (by kernel_rfl) rfl rfl (fun w hw => within_any c h m w (by omega) (by omega) (cell_ext (hw.below rfl) hm)) ?_
            cases h5 : withinG c h with
            | true =>
              have hwb := hwb h5
              refine walkB ?_
              refine k_callb (v := .bool true) (by kernel_rfl) rfl rfl (fun w hw => (within_any b h m w (by omega) (by omega) (cell_ext (hw.below rfl) hm)).mono fun e w' h => ⟨by rw [h.1, hwb], h.2⟩) ?_
              refine walkB ?_
              exact k_ret1 rfl rfl fun w hw => ⟨rfl, hw.below rfl⟩
            | false =>
              refine walkB ?_
              exact k_ret1 rfl rfl fun w hw => ⟨rfl, hw.below rfl⟩
          | false =>
            refine walkB ?_
            exact k_ret1 rfl rfl fun w hw => ⟨rfl, hw.below rfl⟩
        · refine walkB ?_
          exact k_ret1 rfl rfl fun w hw => ⟨rfl, hw.below rfl⟩
      · refine walkB ?_
        exact k_ret1 rfl rfl fun w hw => ⟨rfl, hw.below rfl⟩
    · refine walkB ?_
      exact k_ret1 rfl rfl fun w hw => ⟨rfl, hw.below rfl⟩
end Go.Proofs.YtdolgoplflpbgaaDoor
