/- Lists of names: ParseList and FormatList. -/
import Derived.Test.YtdolgoplflpbgaaGreatDoorGrpJ
import Derived.Test.YtdolgoplflpbgaaGreatDoorGrpZ
namespace Go.Proofs.YtdolgoplflpbgaaGreatDoor
open Go.RowKit Go.Sort

/-! Plain. -/
def commaB : ByteArray := ⟨#[44]⟩
def dupE (pre : List ByteArray) : List ByteArray → Nat
  | [] => 0
  | s :: l => if checkG s = 0 then (if (pre.any fun y => decide (s = y)) = true then 7 else dupE (pre ++ [s]) l) else checkG s
def listErr (l : List ByteArray) : Nat := if 20 < l.length then 9 else dupE [] l
theorem checkG_small (s : ByteArray) : checkG s ≤ 12 := by
  unfold checkG; repeat' split
  all_goals omega
theorem dupE_small : ∀ (l pre : List ByteArray), dupE pre l ≤ 12
  | [], _ => Nat.zero_le _
  | s :: l, pre => by
    rw [dupE]
    split
    · split
      · omega
      · exact dupE_small l _
    · exact checkG_small s
theorem listErr_small (l : List ByteArray) : listErr l ≤ 12 := by
  unfold listErr
  split
  · omega
  · exact dupE_small l []
theorem dupE_zero : ∀ {l pre : List ByteArray}, dupE pre l = 0 → ∀ s ∈ l, checkG s = 0
  | [], _, _, s, hs => by cases hs
  | x :: l, pre, h, s, hs => by
    rw [dupE] at h
    by_cases hx : checkG x = 0
    · rw [if_pos hx] at h
      split at h
      · omega
      · rcases List.mem_cons.1 hs with rfl | hs
        · exact hx
        · exact dupE_zero h s hs
    · rw [if_neg hx] at h; exact absurd h hx
theorem listErr_zero {l : List ByteArray} (h : listErr l = 0) : l.length ≤ 20 ∧ ∀ s ∈ l, checkG s = 0 := by
  unfold listErr at h
  split at h
  · omega
  · exact ⟨by omega, dupE_zero h⟩
def parseListG (s : ByteArray) : List ByteArray × Nat := if s = ⟨#[]⟩ then ([], 4) else if listErr (piecesB commaB s) = 0 then (piecesB commaB s, 0) else ([], listErr (piecesB commaB s))
def formatListG (l : List ByteArray) : ByteArray × Nat := if l = [] then (⟨#[]⟩, 4) else if listErr l = 0 then (joinB commaB l, 0) else (⟨#[]⟩, listErr l)
theorem name_comma {s : ByteArray} (h : checkG s = 0) : ¬ (44 : UInt8) ∈ s.data.toList := by
  intro hm
  have h1 : joinB dotB (piecesB dotB s) = s := joinB_pieces 46 s
  rw [← h1, joinB_data] at hm
  rcases mem_join hm with h2 | ⟨x, hx, h2⟩
  · cases h2
  · obtain ⟨p, hp, rfl⟩ := List.mem_map.1 hx
    have h3 := comp_perm ((checkG_iff.1 h).2.1 p hp) 44 h2
    revert h3; decide
theorem name_pos {s : ByteArray} (h : checkG s = 0) : 1 ≤ s.size := by
  rcases Nat.eq_zero_or_pos s.size with h0 | h0
  · have hs : s = ⟨#[]⟩ := by cases s with | mk d => simp [ByteArray.size] at h0; rw [h0]
    subst hs
    revert h; decide +kernel
  · exact h0
theorem format_parse {l : List ByteArray} (hl : l ≠ []) (h : listErr l = 0) : parseListG (joinB commaB l) = (l, 0) := by
  obtain ⟨h1, h2⟩ := listErr_zero h
  have hp : piecesB commaB (joinB commaB l) = l := pieces_joinB hl fun x hx => name_comma (h2 x hx)
  have hne : joinB commaB l ≠ ⟨#[]⟩ := by
    intro e
    have h3 : (joinB commaB l).size = 0 := by rw [e]; rfl
    cases l with
    | nil => exact hl rfl
    | cons x m =>
      have h4 := joinB_take_le commaB (x :: m) 1
      rw [show (x :: m).take 1 = [x] from rfl, joinB_one] at h4
      have := name_pos (h2 x (by simp))
      omega
  unfold parseListG
  rw [if_neg hne, hp, if_pos h]
theorem sat_val {r w w' : World} {v u : Value} {n m : Nat} {xs ys : List Value} {e : TypeId} {sz : Nat} (h : Sat r [row false v n xs e sz] w') (e1 : v = u) (e2 : n = m) (e3 : xs = ys) : Sat r [row false u m ys e sz] w' := by subst e1 e2 e3; exact h
set_option maxRecDepth 100000
attribute [local irreducible] K KS KLeft KRound J OV EV EU Blk wpList Code.wp bodyPost Exit.then Exit.inBlock Round Left Hid JS wpStill wpHeld Calls
attribute [local irreducible] joinB checkG compB piecesB
theorem indE_any (v : Value) (l : List ByteArray) (x : ByteArray) (r : World) (hv : StrsAt r v l) (hn : l.length ≤ 9223372036854775807) :
    Calls Tryz.prog 88 #[v, .string x] r fun e w' => e = .returned (.int .i64 (firstS (fun s => decide (x = s)) l 0)) ∧ Below r.heap.size r w' := by
  obtain ⟨ea, cap, rfl, _, hc⟩ := hv
  refine k_enter (N := 19) Tryz.func88 rfl rfl rfl ?_
  refine walkB ?_
  refine k_loop (σ := Nat) (fun k => [(0, .slice ea l.length cap), (1, .string x), (7, .int .i64 l.length), (8, .int .i64 k)]) (fun _ => []) (fun k => k ≤ l.length ∧ firstS (fun s => decide (x = s)) (l.drop k) k = firstS (fun s => decide (x = s)) l 0) (fun k => l.length - k) 0 (by repeat (first | exact Sub.nil | refine Sub.cons rfl ?_)) (by repeat (first | exact SubO.nil | refine SubO.keep ?_ | refine SubO.drop rfl ?_)) ⟨Nat.zero_le _, rfl⟩ ?_
  rintro k ⟨hk, hC⟩
  by_cases hlt : k < l.length
  · obtain ⟨b, o, rfl, hcell⟩ := hc k l[k] (by simp [hlt])
    rw [List.drop_eq_getElem_cons hlt, firstS] at hC
    generalize l[k] = s at hcell hC
    refine walkB ?_
    refine k_condd rfl (fun hxs => ?_) (fun hxs => ?_)
    · rw [if_pos (decide_eq_true hxs)] at hC
      refine walkB ?_
      exact k_ret1 rfl rfl fun w hw => ⟨by rw [← hC], hw.below rfl⟩
    · rw [if_neg (by simpa using hxs)] at hC
      refine walkB ?_
      exact k_round (k + 1) (by repeat (first | exact Sub.nil | refine Sub.cons rfl ?_)) (by repeat (first | exact SubO.nil | refine SubO.keep ?_ | refine SubO.drop rfl ?_)) ⟨by omega, hC⟩ (by omega)
  · rw [List.drop_eq_nil_of_le (by omega), firstS] at hC
    refine walkB ?_
    exact k_ret1 rfl rfl fun w hw => ⟨by rw [← hC], hw.below rfl⟩
theorem contE_any (v : Value) (l : List ByteArray) (x : ByteArray) (r : World) (hv : StrsAt r v l) (hn : l.length ≤ 9223372036854775807) :
    Calls Tryz.prog 74 #[v, .string x] r fun e w' => e = .returned (.bool (l.any fun s => decide (x = s))) ∧ Below r.heap.size r w' := by
  rw [← firstS_any _ l 0]
  refine k_enter (N := 9) Tryz.func74 rfl rfl rfl ?_
  refine walkB ?_
  refine k_callb (v := .int .i64 (firstS (fun s => decide (x = s)) l 0)) (by kernel_rfl) rfl rfl (fun w hw => indE_any v l x w (hv.ext (hw.below rfl)) hn) ?_
  refine walkB ?_
  exact k_ret1 rfl rfl fun w hw => ⟨rfl, hw.below rfl⟩
theorem list_any (v : Value) (l : List ByteArray) (m : Int) (r : World) (hv : StrsAt r v l) (hl : ∀ s ∈ l, s.size ≤ 9223372036854775807) (hn : l.length ≤ 9223372036854775807) (hm : r.cell? ⟨0, 0, none⟩ = some (.int .i64 m)) :
    Calls Tryz.prog 51 #[v] r fun e w' => e = .returned (.tuple #[if listErr l = 0 then v else .slice none 0 0, .int .i64 (listErr l : Nat)]) ∧ Below r.heap.size r w' := by
  have hv0 := hv
  obtain ⟨ea, cap, rfl, ⟨hcap, _⟩, hc⟩ := hv
  refine k_enter (N := 29) Tryz.func51 rfl rfl rfl ?_
  by_cases h20 : 20 < l.length
  · have he : listErr l = 9 := by unfold listErr; rw [if_pos h20]
    rw [he]
    refine walkB ?_
    exact k_ret2 rfl rfl rfl fun w hw => ⟨rfl, hw.below rfl⟩
  have he : listErr l = dupE [] l := by unfold listErr; rw [if_neg h20]
  rw [he]
  refine walkB ?_
  refine k_loop (σ := Nat) (fun k => [(0, .slice ea l.length cap), (10, .slice ea l.length cap), (11, .int .i64 l.length), (12, .int .i64 k)]) (fun _ => []) (fun k => k ≤ l.length ∧ dupE (l.take k) (l.drop k) = dupE [] l) (fun k => l.length - k) 0 (by repeat (first | exact Sub.nil | refine Sub.cons rfl ?_)) (by repeat (first | exact SubO.nil | refine SubO.keep ?_ | refine SubO.drop rfl ?_)) ⟨Nat.zero_le _, rfl⟩ ?_
  rintro k ⟨hk, hC⟩
  by_cases hlt : k < l.length
  · obtain ⟨b, o, rfl, hcell⟩ := hc k l[k] (by simp [hlt])
    have hs := hl l[k] (List.getElem_mem hlt)
    have htk : l.take (k + 1) = l.take k ++ [l[k]] := List.take_succ_eq_append_getElem hlt
    rw [List.drop_eq_getElem_cons hlt, dupE, ← htk] at hC
    generalize l[k] = x at hcell hs hC
    refine walkB ?_
    refine k_callb (v := .int .i64 (checkG x)) (by kernel_rfl) rfl rfl (fun w hw => checkG_any x m w hs (cell_ext (hw.below rfl) hm)) ?_
    have hsm := checkG_small x
    by_cases h0 : checkG x = 0
    · rw [if_pos h0] at hC
      rw [h0]
      refine walkB ?_
      refine k_op rfl (fun _ _ => ov_sliceto rfl rfl k rfl (by omega)) ?_
      refine walkB ?_
      refine k_callb (by kernel_rfl) rfl rfl (fun w hw => contE_any _ (l.take k) x w (strs_take (hv0.ext (hw.below rfl)) k hk) (by rw [List.length_take]; omega)) ?_
      cases hin : (l.take k).any fun s => decide (x = s) with
      | true =>
        rw [if_pos hin] at hC
        rw [← hC]
        refine walkB ?_
        exact k_ret2 rfl rfl rfl fun w hw => ⟨rfl, hw.below rfl⟩
      | false =>
        rw [if_neg (by rw [hin]; simp)] at hC
        refine walkB ?_
        exact k_round (k + 1) (by repeat (first | exact Sub.nil | refine Sub.cons rfl ?_)) (by repeat (first | exact SubO.nil | refine SubO.keep ?_ | refine SubO.drop rfl ?_)) ⟨by omega, hC⟩ (by omega)
    · rw [if_neg h0] at hC
      rw [← hC, if_neg h0]
      refine walkB ?_
      exact k_ret2 rfl rfl rfl fun w hw => ⟨rfl, hw.below rfl⟩
  · have hkl : k = l.length := by omega
    subst hkl
    rw [List.drop_length, dupE] at hC
    rw [← hC]
    refine walkB ?_
    exact k_ret2 rfl rfl rfl fun w hw => ⟨rfl, hw.below rfl⟩
theorem refCheckList_any (v : Value) (l : List ByteArray) (r : World) (hv : StrsAt r v l) (hl : ∀ s ∈ l, s.size ≤ 9223372036854775807) (hn : l.length ≤ 9223372036854775807) :
    Calls Tryz.prog 30 #[v] r fun e w' => e = .returned (.int .i64 (listErr l : Nat)) ∧ Below r.heap.size r w' := by
  obtain ⟨ea, cap, rfl, ⟨hcap, _⟩, hc⟩ := hv
  refine k_enter (N := 37) Tryz.func30 rfl rfl rfl ?_
  by_cases h20 : 20 < l.length
  · have he : listErr l = 9 := by unfold listErr; rw [if_pos h20]
    rw [he]
    refine walkB ?_
    exact k_ret1 rfl rfl fun w hw => ⟨rfl, hw.below rfl⟩
  have he : listErr l = dupE [] l := by unfold listErr; rw [if_neg h20]
  rw [he]
  refine walkB ?_
  refine k_loop (σ := Nat) (fun k => [(0, .slice ea l.length cap), (3, .int .i64 k)]) (fun _ => []) (fun k => k ≤ l.length ∧ dupE (l.take k) (l.drop k) = dupE [] l) (fun k => l.length - k) 0 (by repeat (first | exact Sub.nil | refine Sub.cons rfl ?_)) (by repeat (first | exact SubO.nil | refine SubO.keep ?_ | refine SubO.drop rfl ?_)) ⟨Nat.zero_le _, rfl⟩ ?_
  rintro k ⟨hk, hC⟩
  by_cases hlt : k < l.length
  · obtain ⟨b, o, rfl, hcell⟩ := hc k l[k] (by simp [hlt])
    have hs := hl l[k] (List.getElem_mem hlt)
    have htk : l.take (k + 1) = l.take k ++ [l[k]] := List.take_succ_eq_append_getElem hlt
    rw [List.drop_eq_getElem_cons hlt, dupE, ← htk] at hC
    generalize l[k] = x at hcell hs hC
    refine walkB ?_
    refine k_callb (v := .int .i64 (checkG x)) (by kernel_rfl) rfl rfl (fun w hw => refCheckG_any x w hs) ?_
    have hsm := checkG_small x
    by_cases h0 : checkG x = 0
    · rw [if_pos h0] at hC
      rw [h0]
      refine walkB ?_
      refine k_loop (σ := Nat) (fun j => [(0, .slice (some ⟨b, o, none⟩) l.length cap), (3, .int .i64 k), (5, .int .i64 j)]) (fun _ => []) (fun j => j ≤ k ∧ ((l.take k).drop j).any (fun y => decide (x = y)) = (l.take k).any fun y => decide (x = y)) (fun j => k - j) 0 (by repeat (first | exact Sub.nil | refine Sub.cons rfl ?_)) (by repeat (first | exact SubO.nil | refine SubO.keep ?_ | refine SubO.drop rfl ?_)) ⟨Nat.zero_le _, rfl⟩ ?_
      rintro j ⟨hj, hD⟩
      by_cases hjk : j < k
      · obtain ⟨b', o', hbo, hcell2⟩ := hc j l[j] (List.getElem?_eq_getElem (by omega))
        injection hbo with hbo
        injection hbo with e1 e2
        subst e1 e2
        have hlen : j < (l.take k).length := by rw [List.length_take]; omega
        have hget : (l.take k)[j] = l[j]'(by omega) := List.getElem_take
        rw [List.drop_eq_getElem_cons hlen, List.any_cons, hget] at hD
        generalize l[j]'(by omega) = y at hcell2 hD
        refine walkB ?_
        refine k_region_still (by kernel_rfl) (by kernel_rfl) ?_
        refine vwalkB ?_
        refine walkB ?_
        refine k_condd rfl (fun hxy => ?_) (fun hxy => ?_)
        · subst hxy
          rw [decide_eq_true rfl, Bool.true_or] at hD
          rw [if_pos hD.symm] at hC
          rw [← hC]
          refine walkB ?_
          exact k_ret1 rfl rfl fun w hw => ⟨rfl, hw.below rfl⟩
        · rw [decide_eq_false (fun e => hxy e.symm), Bool.false_or] at hD
          refine walkB ?_
          exact k_round (j + 1) (by repeat (first | exact Sub.nil | refine Sub.cons rfl ?_)) (by repeat (first | exact SubO.nil | refine SubO.keep ?_ | refine SubO.drop rfl ?_)) ⟨by omega, hD⟩ (by omega)
      · have hjk2 : j = k := by omega
        subst hjk2
        rw [List.drop_eq_nil_of_le (by rw [List.length_take]; omega), List.any_nil] at hD
        rw [if_neg (by rw [← hD]; simp)] at hC
        refine walkB ?_
        exact k_round (j + 1) (by repeat (first | exact Sub.nil | refine Sub.cons rfl ?_)) (by repeat (first | exact SubO.nil | refine SubO.keep ?_ | refine SubO.drop rfl ?_)) ⟨by omega, hC⟩ (by omega)
    · rw [if_neg h0] at hC
      rw [← hC]
      refine walkB ?_
      exact k_ret1 rfl rfl fun w hw => ⟨rfl, hw.below rfl⟩
  · have hkl : k = l.length := by omega
    subst hkl
    rw [List.drop_length, dupE] at hC
    rw [← hC]
    refine walkB ?_
    exact k_ret1 rfl rfl fun w hw => ⟨rfl, hw.below rfl⟩
end Go.Proofs.YtdolgoplflpbgaaGreatDoor
