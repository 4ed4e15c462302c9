/- The walk of FeedruleBounds. -/
import Derived.Test.YtddiecdoaggaaaaDoorFeedK
import Derived.Test.YtddiecdoaggaaaaDoorMap
namespace Go.Proofs.YtddiecdoaggaaaaDoor
open Go.RowKit

theorem takeP_err {lim day used n now : Int} (h : (takeP lim day used n now).1 ≠ 0) : (takeP lim day used n now).2 = (day, used) := by
  unfold takeP at h ⊢
  split
  · rfl
  · rename_i h1
    rw [if_neg h1] at h
    cases hat : atP day used now with
    | none => rfl
    | some du =>
      rw [hat] at h
      dsimp only at h ⊢
      split
      · rename_i h2; rw [if_pos h2] at h; exact absurd rfl h
      · rename_i h2
        rw [if_neg h2] at h
        split
        · rfl
        · rename_i h3; rw [if_neg h3] at h; exact absurd rfl h
theorem takeP_ok {lim day used n now : Int} (hl : lim ≠ 0) (h : (takeP lim day used n now).1 = 0) : 0 ≤ n ∧ n ≤ 1099511627776 ∧ 0 ≤ now ∧ now ≤ 105190559 ∧ day ≤ now / 1440 ∧ (takeP lim day used n now).2 = (now / 1440, (if now / 1440 = day then used else 0) + n) ∧ (if now / 1440 = day then used else 0) + n ≤ lim := by
  unfold takeP at h ⊢
  split at h
  · simp at h
  · rename_i h1
    rw [if_neg h1]
    unfold atP at h ⊢
    split at h
    · rename_i hh
      split at hh
      · simp at h
      · cases hh
    · rename_i d u hh
      split at hh
      · cases hh
      · rename_i h2
        simp only [Option.some.injEq, Prod.mk.injEq] at hh
        obtain ⟨rfl, rfl⟩ := hh
        rw [if_neg hl]
        by_cases h3 : lim < (if now / 1440 = day then used else 0) + n
        · rw [if_pos h3] at h
          simp at h
        · rw [if_neg h3]
          exact ⟨by omega, by omega, by omega, by omega, by omega, rfl, by omega⟩

def okI (n : Int) : Prop := -9223372036854775808 ≤ n ∧ n ≤ 9223372036854775807
set_option maxRecDepth 100000
attribute [local irreducible] K KS KLeft KRound J OV EV EU Blk wpList Code.wp bodyPost Exit.then Exit.inBlock Round Left Hid JS wpStill wpHeld Calls
attribute [local irreducible] takeP getK setK
set_option maxHeartbeats 4000000 in
theorem bounds_any (limit m : Int) (lv : Value) (l : List (Int × Int)) (r : World) (hm : r.cell? ⟨0, 0, none⟩ = some (.int .i64 m)) (hlim : okI limit) (hv : RowAt r lv 2 (l.map fun c => [.int .i64 c.1, .int .i64 c.2])) (hr : ∀ c ∈ l, okI c.1 ∧ okI c.2) (hn : l.length ≤ 9223372036854775807) :
    Calls Tryd.prog 5 #[.int .i64 limit, lv] r fun e w' => e = .returned (.bool true) ∧ Below r.heap.size r w' := by
  unfold okI at hlim
  obtain ⟨ea, cap, rfl, hcells⟩ := hv
  rw [List.length_map]
  refine k_enter (N := 72) Tryd.func5 rfl rfl rfl ?_
  by_cases hb : limit < 0 ∨ 1099511627776 < limit
  · refine walk ?_
    refine k_callb (by kernel_rfl) rfl rfl (fun w hw => newQuota_no limit w hb) ?_
    refine walk ?_
    refine k_callb (by kernel_rfl) rfl rfl (fun w hw => known_any m w (cell_ext (hw.below rfl) hm)) ?_
    refine walk ?_
    refine k_callb (by kernel_rfl) rfl rfl (fun w hw => known_any m w (cell_ext (hw.below rfl) hm)) ?_
    refine walk ?_
    exact k_ret1 rfl rfl fun w hw => ⟨rfl, hw.below rfl⟩
  refine walk ?_
  refine k_callp (val := fun b => .tuple #[.pointer (some ⟨b, 0, none⟩), .int .i64 0]) (cs := quo limit (-1) 0) (t := 89) (by kernel_rfl) rfl rfl (fun w hw => (newQuota_yes limit w (by omega) (by omega)).mono fun e w' ⟨b, h1, h2, h3, h4⟩ => ⟨b, h1, h2, h3, h4⟩) ?_
  intro qb
  refine walk ?_
  refine k_callb (by kernel_rfl) rfl rfl (fun w hw => known_any m w (cell_ext (hw.below rfl) hm)) ?_
  by_cases h0 : limit = 0
  · refine walk ?_
    refine k_callb (by kernel_rfl) rfl rfl (fun w hw => known_any m w (cell_ext (hw.below rfl) hm)) ?_
    refine walk ?_
    exact k_ret1 rfl rfl fun w hw => ⟨rfl, hw.below rfl⟩
  refine walk ?_
  refine k_makeMap encInt okI encInt rfl ?_
  intro mb
  refine walk ?_
  refine k_loop (σ := Nat × Int × Int × List (Int × Int)) (fun s => [(0, .int .i64 limit), (1, .slice ea l.length cap), (5, .pointer (some ⟨qb, 0, none⟩)), (7, .map (some mb)), (8, .int .i64 s.1)]) (fun s => [mp encInt okI encInt false mb s.2.2.2, bk false qb (quo limit s.2.1 s.2.2.1) 89])
    (fun s => s.1 ≤ l.length ∧ 0 ≤ s.2.2.1 ∧ s.2.2.1 ≤ limit ∧ (getK s.2.2.2 s.2.1).getD 0 = s.2.2.1 ∧ ∀ d, s.2.1 < d → (getK s.2.2.2 d).getD 0 = 0) (fun s => l.length - s.1) (0, -1, 0, []) (by repeat (first | exact Sub.nil | refine Sub.cons rfl ?_)) (by repeat (first | exact SubO.nil | refine SubO.keep ?_ | refine SubO.drop rfl ?_)) ⟨Nat.zero_le _, by dsimp only; omega, by dsimp only; omega, by unfold getK; rfl, fun d _ => by unfold getK; rfl⟩ ?_
  rintro ⟨k, day, used, sums⟩ ⟨hk, hu0, hu1, hs1, hs2⟩
  dsimp only at hk hu0 hu1 hs1 hs2 ⊢
  by_cases hlt : k < l.length
  · by_cases h60 : k < 60
    · obtain ⟨b, o, rfl, hc⟩ := hcells k [.int .i64 l[k].1, .int .i64 l[k].2] (by simp [hlt])
      have hc0 := hc 0 _ rfl
      have hc1 := hc 1 _ rfl
      obtain ⟨⟨hn1, hn2⟩, hw1, hw2⟩ := hr l[k] (List.getElem_mem _)
      generalize l[k] = c at hc0 hc1 hn1 hn2 hw1 hw2
      obtain ⟨n, now⟩ := c
      dsimp only at hc0 hc1 hn1 hn2 hw1 hw2
      refine walk ?_
      refine k_region_tail 11 (by kernel_rfl) (by kernel_rfl) ?_
      dsimp only [List.take]
      refine vwalk ?_
      dsimp only [pickL, nth, List.drop]
      refine k_callm1 (v := .int .i64 (takeP limit day used n now).1) (cs' := quo limit (takeP limit day used n now).2.1 (takeP limit day used n now).2.2) (by kernel_rfl) rfl rfl rfl (fun w hw => take_any qb limit day used n now w hw1 hw2 (by omega) (hw.blk 1 rfl)) ?_
      by_cases ht : (takeP limit day used n now).1 = 0
      · obtain ⟨g1, g2, g3, g4, g5, g6, g7⟩ := takeP_ok h0 ht
        rw [g6]
        dsimp only
        generalize (takeP limit day used n now).1 = tc at ht
        subst ht
        have hsum : (getK sums (now / 1440)).getD 0 = if now / 1440 = day then used else 0 := by
          split
          · rename_i e; rw [e]; exact hs1
          · exact hs2 _ (by omega)
        have hu2 : 0 ≤ (if now / 1440 = day then used else 0) ∧ (if now / 1440 = day then used else 0) ≤ limit := by split <;> omega
        generalize (if now / 1440 = day then used else 0) = u at hsum hu2 g7
        refine walk ?_
        refine k_region_tail 11 (by kernel_rfl) (by kernel_rfl) ?_
        dsimp only [List.take]
        refine vwalk ?_
        refine ks_op rfl (fun _ hw => ov_lookupI 0 hw (key_int (by kernel_rfl)) (now / 1440) ⟨by omega, by omega⟩ rfl rfl rfl) ?_
        refine vwalk ?_
        dsimp only [pickL, nth, List.drop]
        refine k_update0 (key_int (by kernel_rfl)) (now / 1440) ((getK sums (now / 1440)).getD 0 + n) ⟨by omega, by omega⟩ rfl rfl rfl rfl ?_
        have hget : ∀ d, (getK (setK sums (now / 1440) ((getK sums (now / 1440)).getD 0 + n)) d).getD 0 = if now / 1440 = d then u + n else (getK sums d).getD 0 := by
          intro d
          rw [getK_setK, hsum]
          split <;> rfl
        have hg1 := hget (now / 1440)
        rw [if_pos rfl] at hg1
        refine walk ?_
        refine k_op rfl (fun _ hw => ov_lookupI 0 hw (key_int (by kernel_rfl)) (now / 1440) ⟨by omega, by omega⟩ rfl rfl rfl) ?_
        refine walk ?_
        exact k_round (k + 1, now / 1440, u + n, setK sums (now / 1440) ((getK sums (now / 1440)).getD 0 + n)) (by repeat (first | exact Sub.nil | refine Sub.cons rfl ?_)) (by repeat (first | exact SubO.nil | refine SubO.keep ?_ | refine SubO.drop rfl ?_)) ⟨by dsimp only; omega, by dsimp only; omega, g7, hg1, fun d hd => by
          dsimp only at hd ⊢
          rw [hget d, if_neg (by omega)]
          exact hs2 d (by omega)⟩ (by dsimp only; omega)
      · rw [takeP_err ht]
        dsimp only
        generalize (takeP limit day used n now).1 = tc at ht
        refine walk ?_
        exact k_round (k + 1, day, used, sums) (by repeat (first | exact Sub.nil | refine Sub.cons rfl ?_)) (by repeat (first | exact SubO.nil | refine SubO.keep ?_ | refine SubO.drop rfl ?_)) ⟨by dsimp only; omega, hu0, hu1, hs1, hs2⟩ (by dsimp only; omega)
    · refine walk ?_
      exact k_ret1 rfl rfl fun w hw => ⟨rfl, hw.below rfl⟩
  · refine walk ?_
    exact k_ret1 rfl rfl fun w hw => ⟨rfl, hw.below rfl⟩
end Go.Proofs.YtddiecdoaggaaaaDoor
