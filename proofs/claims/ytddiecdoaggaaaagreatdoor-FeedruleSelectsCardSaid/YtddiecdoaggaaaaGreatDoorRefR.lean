/- The walks of the reference's Verdict, Selects and Site. -/
import Derived.Test.YtddiecdoaggaaaaGreatDoorRefL
namespace Go.Proofs.YtddiecdoaggaaaaGreatDoor
open Go.RowKit

def sitePerm (c : Nat) : Prop := 97 ≤ c ∧ c ≤ 122 ∨ 48 ≤ c ∧ c ≤ 57 ∨ c = 45 ∨ c = 46
theorem permitted_iff {l : List UInt8} {k : Nat} : sitePermitted (at8 l k) = true ↔ (97 ≤ (byteAt l k).toNat ∧ (byteAt l k).toNat ≤ 122 ∨ 48 ≤ (byteAt l k).toNat ∧ (byteAt l k).toNat ≤ 57 ∨ (byteAt l k).toNat = 45 ∨ (byteAt l k).toNat = 46) := by
  have : at8 l k = (byteAt l k).toNat := rfl
  rw [this]
  unfold sitePermitted isLower isDigit
  simp only [Bool.or_eq_true, Bool.and_eq_true, decide_eq_true_iff, beq_iff_eq]
  omega
theorem misplaced_iff {l : List UInt8} {k : Nat} : misplacedB l k = true ↔ (k = 0 ∧ ¬ (97 ≤ (byteAt l k).toNat ∧ (byteAt l k).toNat ≤ 122) ∨ 0 < k ∧ (byteAt l k).toNat = 46 ∧ (byteAt l (k - 1)).toNat = 46 ∨ k + 1 = l.length ∧ ((byteAt l k).toNat = 45 ∨ (byteAt l k).toNat = 46)) := by
  have h1 : at8 l k = (byteAt l k).toNat := rfl
  have h2 : at8 l (k - 1) = (byteAt l (k - 1)).toNat := rfl
  unfold misplacedB
  rw [h1, h2]
  split
  · unfold isLower
    simp only [Bool.not_eq_true', Bool.and_eq_false_iff, decide_eq_false_iff_not]
    omega
  · split
    · simp; omega
    · simp only [Bool.and_eq_true, Bool.or_eq_true, decide_eq_true_iff]
      omega
set_option maxRecDepth 100000
attribute [local irreducible] K KS KLeft KRound J OV EV EU Blk wpList Code.wp bodyPost Exit.then Exit.inBlock Round Left Hid JS wpStill wpHeld Calls
attribute [local irreducible] namedB byteAt parts parseGo compP piece partV refC matchP verdictP
set_option maxHeartbeats 4000000 in
theorem refVerdict_any (v : Value) (items : List (Nat × List Elem)) (name : ByteArray) (r : World) (hI : RItemsAt r v items) (hok : ∀ x ∈ items, x.2.length ≤ 80 ∧ ∀ y ∈ x.2, okE y) (hn : items.length ≤ 64) (hs : name.size ≤ 281474976710655) :
    Calls Tryz.prog 76 #[v, .string name] r fun e w' => e = .returned (.int .i64 (verdictP items name.data.toList)) ∧ Below r.heap.size r w' := by
  obtain ⟨its, rfl, ⟨ea, cap, rfl, hcs⟩, hels⟩ := hI
  rw [List.length_map] at hn ⊢
  refine k_enter (N := 26) Tryz.func76 rfl rfl rfl ?_
  refine walkT ?_
  refine k_loop (σ := Nat) (fun k => [(0, .slice ea its.length cap), (1, .string name), (5, .int .i64 (verdictP ((its.take k).map (·.1)) name.data.toList)), (6, .int .i64 k)]) (fun _ => []) (fun k => k ≤ its.length) (fun k => its.length - k) 0 (by refine Sub.cons rfl (Sub.cons rfl (Sub.cons ?_ (Sub.cons rfl Sub.nil))); rw [List.take_zero, List.map_nil, verdictP_nil]; rfl) (by repeat (first | exact SubO.nil | refine SubO.keep ?_ | refine SubO.drop rfl ?_)) (Nat.zero_le _) ?_
  intro k hk
  by_cases hlt : k < its.length
  · obtain ⟨b, o, rfl, hc⟩ := hcs k (ritemC its[k]) (by rw [List.getElem?_map, List.getElem?_eq_getElem hlt]; rfl)
    have h0 := hc 0 _ rfl
    have h1 := hc 1 _ rfl
    have h2 := hc 2 _ rfl
    have hE := hels _ (List.getElem_mem hlt)
    have hx := hok its[k].1 (List.mem_map.2 ⟨its[k], List.getElem_mem hlt, rfl⟩)
    have hv : verdictP ((its.take (k + 1)).map (·.1)) name.data.toList = if matchP its[k].1.2 name.data.toList = true then its[k].1.1 else verdictP ((its.take k).map (·.1)) name.data.toList := by
      rw [List.take_add_one, List.getElem?_eq_getElem hlt, List.map_append]
      exact verdictP_snoc _ _ _
    generalize its[k] = x at h0 h1 h2 hE hx hv
    refine walkT ?_
    refine k_op rfl (fun w hw => ov_loadAgg (cs := [.string x.2.1, x.2.2]) rfl rfl (fun j u hj => ?_)) ?_
    · rw [addr_add]
      match j, hj with
      | 0, hj => injection hj with hj; subst hj; exact cell_ext (hw.below rfl) h1
      | 1, hj => injection hj with hj; subst hj; exact cell_ext (hw.below rfl) h2
    refine walkT ?_
    refine k_callb (v := .bool (matchP x.1.2 name.data.toList)) (by kernel_rfl) rfl rfl (fun w hw => (refMatch_any x.2.1 name x.2.2 x.1.2 w (hE.ext (hw.below rfl)) hs (by omega)).mono fun e w' h => ⟨by rw [h.1, refMatch_eq hx.2], h.2⟩) ?_
    cases hm : matchP x.1.2 name.data.toList with
    | true =>
      rw [hm] at hv
      refine walkT ?_
      refine k_round (k + 1) (by rw [hv]; repeat (first | exact Sub.nil | refine Sub.cons rfl ?_)) (by repeat (first | exact SubO.nil | refine SubO.keep ?_ | refine SubO.drop rfl ?_)) (by omega) (by omega)
    | false =>
      rw [hm] at hv
      refine walkT ?_
      refine k_round (k + 1) (by rw [hv]; repeat (first | exact Sub.nil | refine Sub.cons rfl ?_)) (by repeat (first | exact SubO.nil | refine SubO.keep ?_ | refine SubO.drop rfl ?_)) (by omega) (by omega)
  · rw [List.take_of_length_le (by omega)]
    refine walkT ?_
    exact k_ret1 rfl rfl fun w hw => ⟨rfl, hw.below rfl⟩
set_option maxHeartbeats 4000000 in
theorem refSelects_any (v lv : Value) (items : List (Nat × List Elem)) (names : List ByteArray) (r : World) (hI : RItemsAt r v items) (hok : ∀ x ∈ items, x.2.length ≤ 80 ∧ ∀ y ∈ x.2, okE y) (hn : items.length ≤ 64) (hv : StrsAt r lv names) (hs : ∀ s ∈ names, s.size ≤ 281474976710655) (hnn : names.length ≤ 2000000) :
    Calls Tryz.prog 49 #[v, lv] r fun e w' => e = .returned (.bool (selP items (names.map (·.data.toList)))) ∧ Below r.heap.size r w' := by
  obtain ⟨ea, cap, rfl, _, hc⟩ := hv
  refine k_enter (N := 28) Tryz.func49 rfl rfl rfl ?_
  refine walkT ?_
  refine k_loop (σ := Nat × Bool) (fun t => [(0, v), (1, .slice ea names.length cap), (5, .bool t.2), (6, .int .i64 t.1)]) (fun _ => []) (fun t => t.1 ≤ names.length ∧ selGo items ((names.drop t.1).map (·.data.toList)) t.2 = selP items (names.map (·.data.toList))) (fun t => names.length - t.1) (0, false) (by repeat (first | exact Sub.nil | refine Sub.cons rfl ?_)) (by repeat (first | exact SubO.nil | refine SubO.keep ?_ | refine SubO.drop rfl ?_)) ⟨Nat.zero_le _, rfl⟩ ?_
  rintro ⟨k, acc⟩ ⟨hk, hC⟩
  dsimp only at hk hC ⊢
  by_cases hlt : k < names.length
  · obtain ⟨b, o, rfl, hcell⟩ := hc k names[k] (by simp [hlt])
    have hdk : (names.drop k).map (·.data.toList) = names[k].data.toList :: (names.drop (k + 1)).map (·.data.toList) := by
      rw [List.drop_eq_getElem_cons hlt]; rfl
    have hsz := hs names[k] (List.getElem_mem _)
    rw [hdk, selGo] at hC
    generalize names[k] = s at hcell hC hsz
    refine walkT ?_
    refine k_callb (v := .int .i64 (verdictP items s.data.toList)) (by kernel_rfl) rfl rfl (fun w hw => refVerdict_any v items s w (hI.ext (hw.below rfl)) hok hn hsz) ?_
    generalize verdictP items s.data.toList = vd at hC
    by_cases h3 : vd = 3
    · rw [if_pos h3] at hC
      refine walkT ?_
      exact k_ret1 rfl rfl fun w hw => ⟨by rw [← hC], hw.below rfl⟩
    · rw [if_neg h3] at hC
      by_cases h1 : vd = 1
      · rw [decide_eq_true h1] at hC
        cases acc with
        | true =>
          refine walkT ?_
          refine k_round (k + 1, true) (by repeat (first | exact Sub.nil | refine Sub.cons rfl ?_)) (by repeat (first | exact SubO.nil | refine SubO.keep ?_ | refine SubO.drop rfl ?_)) ⟨by dsimp only; omega, by rw [← hC]; rfl⟩ (by dsimp only; omega)
        | false =>
          refine walkT ?_
          refine k_round (k + 1, true) (by repeat (first | exact Sub.nil | refine Sub.cons rfl ?_)) (by repeat (first | exact SubO.nil | refine SubO.keep ?_ | refine SubO.drop rfl ?_)) ⟨by dsimp only; omega, by rw [← hC]; rfl⟩ (by dsimp only; omega)
      · rw [decide_eq_false h1] at hC
        cases acc with
        | true =>
          refine walkT ?_
          refine k_round (k + 1, true) (by repeat (first | exact Sub.nil | refine Sub.cons rfl ?_)) (by repeat (first | exact SubO.nil | refine SubO.keep ?_ | refine SubO.drop rfl ?_)) ⟨by dsimp only; omega, by rw [← hC]; rfl⟩ (by dsimp only; omega)
        | false =>
          refine walkT ?_
          refine k_round (k + 1, false) (by repeat (first | exact Sub.nil | refine Sub.cons rfl ?_)) (by repeat (first | exact SubO.nil | refine SubO.keep ?_ | refine SubO.drop rfl ?_)) ⟨by dsimp only; omega, by rw [← hC]; rfl⟩ (by dsimp only; omega)
  · rw [List.drop_eq_nil_of_le (by omega), List.map_nil, selGo] at hC
    refine walkT ?_
    exact k_ret1 rfl rfl fun w hw => ⟨by rw [hC], hw.below rfl⟩
attribute [local irreducible] siteRes sitePermitted misplacedB at8
set_option maxHeartbeats 4000000 in
theorem refSite_any (s : ByteArray) (r : World) (hs : s.size ≤ 9223372036854775807) :
    Calls Tryz.prog 19 #[.string s] r fun e w' => e = .returned (.tuple #[.int .i64 (siteRes s.data.toList).1, .int .i64 (siteRes s.data.toList).2]) ∧ Below r.heap.size r w' := by
  have hlen : s.data.toList.length = s.size := len_data s
  refine k_enter (N := 99) Tryz.func19 rfl rfl rfl ?_
  by_cases h0 : s = ⟨#[]⟩
  · have hz : s.size = 0 := by rw [h0]; rfl
    rw [siteRes_empty (by omega)]
    refine walkT ?_
    exact k_ret2 rfl rfl rfl fun w hw => ⟨rfl, hw.below rfl⟩
  have h1 : s.size ≠ 0 := fun h => h0 (by
    cases s with | mk d => simp [ByteArray.size] at h; rw [h])
  by_cases h30 : 30 < s.size
  · rw [siteRes_long (by omega)]
    refine walkT ?_
    exact k_ret2 rfl rfl rfl fun w hw => ⟨rfl, hw.below rfl⟩
  refine walkT ?_
  refine k_loop (σ := Nat) (fun k => [(0, .string s), (4, .int .i64 k)]) (fun _ => []) (fun k => k ≤ s.size ∧ ∀ j, j < k → sitePermitted (at8 s.data.toList j) = true) (fun k => s.size - k) 0 (by repeat (first | exact Sub.nil | refine Sub.cons rfl ?_)) (by repeat (first | exact SubO.nil | refine SubO.keep ?_ | refine SubO.drop rfl ?_)) ⟨Nat.zero_le _, fun j h => by omega⟩ ?_
  rintro k ⟨hk, hall⟩
  by_cases hlt : k < s.size
  · have h256 := UInt8.toNat_lt (byteAt s.data.toList k)
    have hpi := permitted_iff (l := s.data.toList) (k := k)
    cases hp : sitePermitted (at8 s.data.toList k) with
    | true =>
      have hp' := hpi.1 hp
      have hnx : ∀ j, j < k + 1 → sitePermitted (at8 s.data.toList j) = true := fun j hj => by
        rcases Nat.lt_succ_iff_lt_or_eq.1 hj with h | h
        · exact hall j h
        · subst h; exact hp
      clear hpi hp
      rcases hp' with h | h | h | h
      all_goals
        refine walkT ?_
        refine k_round (k + 1) (by repeat (first | exact Sub.nil | refine Sub.cons rfl ?_)) (by repeat (first | exact SubO.nil | refine SubO.keep ?_ | refine SubO.drop rfl ?_)) ⟨by omega, hnx⟩ (by omega)
    | false =>
      rw [siteRes_bad (by omega) (by omega) (by omega : k < s.data.toList.length) hp hall]
      have hb : ¬ (97 ≤ (byteAt s.data.toList k).toNat ∧ (byteAt s.data.toList k).toNat ≤ 122 ∨ 48 ≤ (byteAt s.data.toList k).toNat ∧ (byteAt s.data.toList k).toNat ≤ 57 ∨ (byteAt s.data.toList k).toNat = 45 ∨ (byteAt s.data.toList k).toNat = 46) := fun h => by rw [hpi.2 h] at hp; cases hp
      clear hpi hp
      by_cases g1 : 97 ≤ (byteAt s.data.toList k).toNat
      · refine walkT ?_
        exact k_ret2 rfl rfl rfl fun w hw => ⟨rfl, hw.below rfl⟩
      · by_cases g2 : 48 ≤ (byteAt s.data.toList k).toNat
        · refine walkT ?_
          exact k_ret2 rfl rfl rfl fun w hw => ⟨rfl, hw.below rfl⟩
        · refine walkT ?_
          exact k_ret2 rfl rfl rfl fun w hw => ⟨rfl, hw.below rfl⟩
  have hall' : ∀ j, j < s.data.toList.length → sitePermitted (at8 s.data.toList j) = true := fun j hj => hall j (by omega)
  clear hall
  refine walkT ?_
  refine k_loop (σ := Nat) (fun k => [(0, .string s), (6, .int .i64 k)]) (fun _ => []) (fun k => k ≤ s.size ∧ ∀ j, j < k → misplacedB s.data.toList j = false) (fun k => s.size - k) 0 (by repeat (first | exact Sub.nil | refine Sub.cons rfl ?_)) (by repeat (first | exact SubO.nil | refine SubO.keep ?_ | refine SubO.drop rfl ?_)) ⟨Nat.zero_le _, fun j h => by omega⟩ ?_
  rintro k ⟨hk, hall⟩
  by_cases hlt : k < s.size
  · have h256 := UInt8.toNat_lt (byteAt s.data.toList k)
    have hpi := misplaced_iff (l := s.data.toList) (k := k)
    rw [hlen] at hpi
    cases hp : misplacedB s.data.toList k with
    | false =>
      have hb : ¬ (k = 0 ∧ ¬ (97 ≤ (byteAt s.data.toList k).toNat ∧ (byteAt s.data.toList k).toNat ≤ 122) ∨ 0 < k ∧ (byteAt s.data.toList k).toNat = 46 ∧ (byteAt s.data.toList (k - 1)).toNat = 46 ∨ k + 1 = s.size ∧ ((byteAt s.data.toList k).toNat = 45 ∨ (byteAt s.data.toList k).toNat = 46)) := fun h => by rw [hpi.2 h] at hp; cases hp
      have hnx : ∀ j, j < k + 1 → misplacedB s.data.toList j = false := fun j hj => by
        rcases Nat.lt_succ_iff_lt_or_eq.1 hj with h | h
        · exact hall j h
        · subst h; exact hp
      clear hpi hp
      by_cases g1 : 97 ≤ (byteAt s.data.toList k).toNat ∧ (byteAt s.data.toList k).toNat ≤ 122
      · by_cases g2 : k = 0
        · by_cases g3 : k + 1 = s.size
          · refine walkT ?_
            refine k_round (k + 1) (by repeat (first | exact Sub.nil | refine Sub.cons rfl ?_)) (by repeat (first | exact SubO.nil | refine SubO.keep ?_ | refine SubO.drop rfl ?_)) ⟨by omega, hnx⟩ (by omega)
          · refine walkT ?_
            refine k_round (k + 1) (by repeat (first | exact Sub.nil | refine Sub.cons rfl ?_)) (by repeat (first | exact SubO.nil | refine SubO.keep ?_ | refine SubO.drop rfl ?_)) ⟨by omega, hnx⟩ (by omega)
        · by_cases g3 : k + 1 = s.size
          · refine walkT ?_
            refine k_round (k + 1) (by repeat (first | exact Sub.nil | refine Sub.cons rfl ?_)) (by repeat (first | exact SubO.nil | refine SubO.keep ?_ | refine SubO.drop rfl ?_)) ⟨by omega, hnx⟩ (by omega)
          · refine walkT ?_
            refine k_round (k + 1) (by repeat (first | exact Sub.nil | refine Sub.cons rfl ?_)) (by repeat (first | exact SubO.nil | refine SubO.keep ?_ | refine SubO.drop rfl ?_)) ⟨by omega, hnx⟩ (by omega)
      · have g2 : 0 < k := by omega
        repeat (any_goals (first | refine walkT1 ?_ | (apply k_condd; exact rfl; all_goals intro _) | (apply k_condn; exact rfl; all_goals intro _) | (apply k_guardd; exact rfl; exact rfl; exact rfl; exact rfl; all_goals intro _)))
        all_goals first | (refine k_round (k + 1) (by repeat (first | exact Sub.nil | refine Sub.cons rfl ?_)) (by repeat (first | exact SubO.nil | refine SubO.keep ?_ | refine SubO.drop rfl ?_)) ⟨by omega, hnx⟩ (by omega)) | (exfalso; omega)
    | true =>
      have hb := hpi.1 hp
      rw [siteRes_mis (by omega) (by omega) hall' (by omega : k < s.data.toList.length) hp hall]
      clear hpi hp
      by_cases g0 : k = 0
      · repeat (any_goals (first | refine walkT1 ?_ | (apply k_condd; exact rfl; all_goals intro _) | (apply k_condn; exact rfl; all_goals intro _) | (apply k_guardd; exact rfl; exact rfl; exact rfl; exact rfl; all_goals intro _)))
        all_goals first | (exact k_ret2 rfl rfl rfl fun w hw => ⟨rfl, hw.below rfl⟩) | (exfalso; omega)
      · by_cases g1 : (byteAt s.data.toList k).toNat = 46
        · by_cases g2 : (byteAt s.data.toList (k - 1)).toNat = 46
          · refine walkT ?_
            exact k_ret2 rfl rfl rfl fun w hw => ⟨rfl, hw.below rfl⟩
          · refine walkT ?_
            exact k_ret2 rfl rfl rfl fun w hw => ⟨rfl, hw.below rfl⟩
        · refine walkT ?_
          exact k_ret2 rfl rfl rfl fun w hw => ⟨rfl, hw.below rfl⟩
  · rw [siteRes_ok (by omega) (by omega) hall' (fun j hj => hall j (by omega))]
    refine walkT ?_
    exact k_ret2 rfl rfl rfl fun w hw => ⟨rfl, hw.below rfl⟩
end Go.Proofs.YtddiecdoaggaaaaGreatDoor
