/- The walks of the reference's Check, Reason and Due. -/
import Derived.Test.YtddiecdoaggaaaaGreatDoorRefR
import Derived.Test.YtddiecdoaggaaaaGreatDoorFeedL
namespace Go.Proofs.YtddiecdoaggaaaaGreatDoor
open Go.RowKit

theorem reason_ref {nb : ByteArray} {mb : Int} {dists : List ByteArray} {items : List (Nat × List Elem)} {gs : List ByteArray} {d : ByteArray} {n : Int} {c : Bool} {f : ByteArray} : reasonP nb mb dists items gs d n c f =
    if f = nb then 1 else if c = true then 0 else if selP items (gs.map (·.data.toList)) = false then 2 else if mb ≠ 0 ∧ mb < n then 3 else if 0 < dists.length ∧ d ≠ ⟨#[]⟩ ∧ Lib.containsS dists d = false then 4 else 0 := by
  unfold reasonP c1P c2P c3P c4P
  by_cases h1 : f = nb
  · rw [if_pos h1, decide_eq_true h1]; rfl
  · rw [if_neg h1, decide_eq_false h1]
    cases c with
    | true => rfl
    | false =>
      rw [if_neg (by simp)]
      cases h2 : selP items (gs.map (·.data.toList)) with
      | false => rfl
      | true =>
        rw [if_neg (by simp)]
        by_cases h3 : mb ≠ 0 ∧ mb < n
        · rw [if_pos h3, decide_eq_false h3.1, decide_eq_true h3.2]; rfl
        · rw [if_neg h3]
          have e3 : (!decide (mb = 0) && decide (mb < n)) = false := by
            rw [Bool.eq_false_iff]; intro h; simp at h; exact h3 h
          rw [e3]
          by_cases h4 : 0 < dists.length ∧ d ≠ ⟨#[]⟩ ∧ Lib.containsS dists d = false
          · rw [if_pos h4, decide_eq_true h4.1, decide_eq_false h4.2.1, h4.2.2]; rfl
          · rw [if_neg h4]
            have e4 : (decide (0 < dists.length) && (!decide (d = ⟨#[]⟩) && !Lib.containsS dists d)) = false := by
              rw [Bool.eq_false_iff]; intro h; simp only [Bool.and_eq_true, Bool.not_eq_true', decide_eq_true_iff, decide_eq_false_iff_not] at h; exact h4 h
            rw [e4]; rfl
theorem dists_step {s : ByteArray} {l prev : List ByteArray} : distsGo (s :: l) prev = if distP s.data.toList = true then if Lib.containsS prev s = true then 7 else distsGo l (prev ++ [s]) else 12 := rfl
theorem dists_nil {prev : List ByteArray} : distsGo [] prev = 0 := rfl
set_option maxRecDepth 100000
attribute [local irreducible] K KS KLeft KRound J OV EV EU Blk wpList Code.wp bodyPost Exit.then Exit.inBlock Round Left Hid JS wpStill wpHeld Calls
attribute [local irreducible] siteRes parseP distP checkP distsGo selP Lib.containsS
set_option maxHeartbeats 4000000 in
theorem refCheck_any (nb pats : ByteArray) (mb dl : Int) (dv : Value) (dists : List ByteArray) (r : World) (hnb : nb.size ≤ 9223372036854775807) (hps : pats.size ≤ 1000000000000) (hd : StrsAt r dv dists) (hds : ∀ s ∈ dists, s.size ≤ 9223372036854775807) (hdn : dists.length ≤ 2000000) :
    Calls Tryz.prog 7 #[.agg #[.string nb, .string pats, .int .i64 mb, .int .i64 dl, dv]] r fun e w' => e = .returned (.int .i64 (checkP nb.data.toList pats.data.toList mb dl dists)) ∧ Below r.heap.size r w' := by
  have htake := fun i hi => hd.take i hi
  obtain ⟨ea, cap, rfl, hcl, hcs⟩ := hd
  refine k_enter (N := 74) Tryz.func7 rfl rfl rfl ?_
  refine walkT ?_
  refine k_box (cs := [.string nb, .string pats, .int .i64 mb, .int .i64 dl, .slice ea dists.length cap]) rfl rfl rfl ?_
  intro rb
  refine walkT ?_
  refine k_callb (v := .tuple #[.int .i64 (siteRes nb.data.toList).1, .int .i64 (siteRes nb.data.toList).2]) (by kernel_rfl) rfl rfl (fun w hw => refSite_any nb w hnb) ?_
  generalize hS : siteRes nb.data.toList = sr
  obtain ⟨s1, s2⟩ := sr
  dsimp only
  by_cases hs2 : s2 = 0
  · subst hs2
    refine walkT ?_
    refine k_call (by kernel_rfl) rfl rfl (fun w hw => refParse_any pats w hps) ?_
    rintro w e w1 hw hE
    unfold RParsePost at hE
    cases hP : parseP pats.data.toList with
    | inr c =>
      rw [hP] at hE
      obtain ⟨⟨i, rfl⟩, hb⟩ := hE
      have hc0 := parseP_err hP
      rw [check_pats (by rw [hS]) hP]
      refine ⟨_, rfl, j_of_k (hw.ext hb) ?_⟩
      refine walkT ?_
      exact k_ret1 rfl rfl fun w hw => ⟨rfl, hw.below rfl⟩
    | inl items =>
      rw [hP] at hE
      obtain ⟨v, rfl, -, -, -, hb⟩ := hE
      rw [check_rest (by rw [hS]) hP]
      refine ⟨_, rfl, j_of_k (hw.ext hb) ?_⟩
      by_cases hr : mb < 0 ∨ 65536 < mb ∨ dl < 0 ∨ 20160 < dl
      · rw [if_pos hr]
        repeat (any_goals (first | refine walkT1 ?_ | (apply k_condd; exact rfl; all_goals intro _) | (apply k_condn; exact rfl; all_goals intro _) | (apply k_guardd; exact rfl; exact rfl; exact rfl; exact rfl; all_goals intro _)))
        all_goals first | (exact k_ret1 rfl rfl fun w hw => ⟨rfl, hw.below rfl⟩) | (exfalso; omega)
      · rw [if_neg hr]
        by_cases h8 : 8 < dists.length
        · rw [if_pos h8]
          refine walkT ?_
          exact k_ret1 rfl rfl fun w hw => ⟨rfl, hw.below rfl⟩
        · rw [if_neg h8]
          refine walkT ?_
          refine k_loop (σ := Nat) (fun k => [(1, .pointer (some ⟨rb, 0, none⟩)), (8, .int .i64 k)]) (fun _ => [bk false rb [.string nb, .string pats, .int .i64 mb, .int .i64 dl, .slice ea dists.length cap] 24]) (fun k => k ≤ dists.length ∧ distsGo (dists.drop k) (dists.take k) = distsGo dists []) (fun k => dists.length - k) 0 (by repeat (first | exact Sub.nil | refine Sub.cons rfl ?_)) (by repeat (first | exact SubO.nil | refine SubO.keep ?_ | refine SubO.drop rfl ?_)) ⟨Nat.zero_le _, rfl⟩ ?_
          rintro k ⟨hk, hC⟩
          by_cases hlt : k < dists.length
          · obtain ⟨b, o, rfl, hcell⟩ := hcs k dists[k] (by simp [hlt])
            obtain ⟨ea', cap', he, htk⟩ := htake k hk
            cases he
            have hsz := hds dists[k] (List.getElem_mem _)
            rw [List.drop_eq_getElem_cons hlt, dists_step] at hC
            have htk1 : dists.take (k + 1) = dists.take k ++ [dists[k]] := by rw [List.take_add_one]; simp [hlt]
            rw [← htk1] at hC
            generalize dists[k] = s at hcell hsz hC
            refine walkT ?_
            refine k_callb (v := .bool (distP s.data.toList)) (by kernel_rfl) rfl rfl (fun w hw => word_any s w hsz) ?_
            cases hdp : distP s.data.toList with
            | false =>
              rw [hdp, if_neg (by simp)] at hC
              refine walkT ?_
              exact k_ret1 rfl rfl fun w hw => ⟨by rw [← hC]; rfl, hw.below rfl⟩
            | true =>
              rw [hdp, if_pos rfl] at hC
              refine walkT ?_
              refine k_held 10 [0, 1, 2, 3, 4, 5, 6, 7, 8, 9] (by kernel_rfl) (by kernel_rfl) ?_
              dsimp only [pickL, nth, List.drop]
              refine hwalkT ?_
              refine kh_op rfl rfl (fun _ _ => ov_sliceto rfl rfl k rfl (by have := hcl.1; omega)) ?_
              refine hwalkT ?_
              refine kh_callb (v := .bool (Lib.containsS (dists.take k) s)) (by kernel_rfl) rfl rfl (fun w hw => has_any _ _ s w (htk.ext (hw.below rfl)) (by rw [List.length_take]; omega)) ?_
              refine hwalkT ?_
              cases hcn : Lib.containsS (dists.take k) s with
              | true =>
                rw [hcn, if_pos rfl] at hC
                refine walkT ?_
                exact k_ret1 rfl rfl fun w hw => ⟨by rw [← hC]; rfl, hw.below rfl⟩
              | false =>
                rw [hcn, if_neg (by simp)] at hC
                refine walkT ?_
                refine k_round (k + 1) (by repeat (first | exact Sub.nil | refine Sub.cons rfl ?_)) (by repeat (first | exact SubO.nil | refine SubO.keep ?_ | refine SubO.drop rfl ?_)) ⟨by omega, hC⟩ (by omega)
          · rw [List.drop_eq_nil_of_le (by omega), dists_nil] at hC
            refine walkT ?_
            exact k_ret1 rfl rfl fun w hw => ⟨by rw [← hC]; rfl, hw.below rfl⟩
  · rw [check_site (by rw [hS]; exact hs2), hS]
    refine walkT ?_
    exact k_ret1 rfl rfl fun w hw => ⟨rfl, hw.below rfl⟩
theorem refDue_any {ic : List Value} {gv : Value} {d : ByteArray} {n : Int} {c : Bool} {f : ByteArray} {a : Int} (nb pats : ByteArray) (mb dl : Int) (dv : Value) (r : World) (hdv : dv.oneCell' = true) (hi : ic.length = 32) (hgv : gv.oneCell' = true) (hdl : 0 ≤ dl ∧ dl ≤ 20160) (ha : -9223372036854775808 ≤ a) (ha' : a ≤ 9223372036854775807) :
    Calls Tryz.prog 31 #[.agg #[.string nb, .string pats, .int .i64 mb, .int .i64 dl, dv], .agg (fitemC ic gv d n c f a).toArray] r fun e w' => e = .returned (.int .i64 (dueP dl a)) ∧ Below r.heap.size r w' := by
  refine k_enter (N := 16) Tryz.func31 rfl rfl rfl ?_
  refine walkT ?_
  refine k_box (cs := [.string nb, .string pats, .int .i64 mb, .int .i64 dl, dv]) rfl rfl rfl ?_
  intro rb
  refine walkT ?_
  refine k_box (cs := fitemC ic gv d n c f a) rfl rfl rfl ?_
  intro ib
  unfold dueP
  by_cases h : 9223372036854775807 - dl < a
  · rw [if_pos h]
    refine walkT ?_
    exact k_ret1 rfl rfl fun w hw => ⟨rfl, hw.below rfl⟩
  · rw [if_neg h]
    refine walkT ?_
    exact k_ret1 rfl rfl fun w hw => ⟨rfl, hw.below rfl⟩
set_option maxHeartbeats 4000000 in
theorem refReason_any {ic : List Value} {gv : Value} {d : ByteArray} {n : Int} {c : Bool} {f : ByteArray} {a : Int} {gs : List ByteArray} {items : List (Nat × List Elem)} (nb pats : ByteArray) (mb dl : Int) (dv : Value) (dists : List ByteArray) (r : World) (hps : pats.size ≤ 1000000000000) (hP : parseP pats.data.toList = .inl items) (hd : StrsAt r dv dists) (hdn : dists.length ≤ 2000000) (hi : ic.length = 32) (hg : StrsAt r gv gs) (hgs : ∀ s ∈ gs, s.size ≤ 281474976710655) (hgn : gs.length ≤ 2000000) :
    Calls Tryz.prog 30 #[.agg #[.string nb, .string pats, .int .i64 mb, .int .i64 dl, dv], .agg (fitemC ic gv d n c f a).toArray] r fun e w' => e = .returned (.int .i64 (reasonP nb mb dists items gs d n c f)) ∧ Below r.heap.size r w' := by
  have hdv : dv.oneCell' = true := by obtain ⟨_, _, rfl, _⟩ := hd; rfl
  have hgv : gv.oneCell' = true := by obtain ⟨_, _, rfl, _⟩ := hg; rfl
  rw [reason_ref]
  refine k_enter (N := 57) Tryz.func30 rfl rfl rfl ?_
  refine walkT ?_
  refine k_box (cs := [.string nb, .string pats, .int .i64 mb, .int .i64 dl, dv]) rfl rfl rfl ?_
  intro rb
  refine walkT ?_
  refine k_box (cs := fitemC ic gv d n c f a) rfl rfl rfl ?_
  intro ib
  by_cases h1 : f = nb
  · rw [if_pos h1]
    refine walkT ?_
    exact k_ret1 rfl rfl fun w hw => ⟨rfl, hw.below rfl⟩
  rw [if_neg h1]
  cases c with
  | true =>
    rw [if_pos rfl]
    refine walkT ?_
    exact k_ret1 rfl rfl fun w hw => ⟨rfl, hw.below rfl⟩
  | false =>
    rw [if_neg (by simp)]
    refine walkT ?_
    refine k_call (by kernel_rfl) rfl rfl (fun w hw => refParse_any pats w hps) ?_
    rintro w e w1 hw hE
    unfold RParsePost at hE
    rw [hP] at hE
    obtain ⟨v, rfl, hI, hn64, hok, hb⟩ := hE
    have hS1 := hw.ext hb
    have hB1 := hS1.below rfl
    have hI1 := hS1.blk 0 rfl
    have hR1 := hS1.blk 1 rfl
    have hd1 := hd.ext hB1
    have hg1 := hg.ext hB1
    have hlen : ∃ ea cap, dv = .slice ea dists.length cap := by obtain ⟨ea, cap, h, _⟩ := hd; exact ⟨ea, cap, h⟩
    obtain ⟨ea, cap, rfl⟩ := hlen
    refine ⟨_, rfl, j_of_k (Sat.refl w1) ?_⟩
    refine walkT ?_
    refine k_callb (v := .bool (selP items (gs.map (·.data.toList)))) (by kernel_rfl) rfl rfl (fun w hw => refSelects_any v gv items gs w (hI.ext (hw.below rfl)) hok hn64 (hg1.ext (hw.below rfl)) hgs hgn) ?_
    cases hsel : selP items (gs.map (·.data.toList)) with
    | false =>
      rw [if_pos rfl]
      refine walkT ?_
      exact k_ret1 rfl rfl fun w hw => ⟨rfl, hB1.trans ((hw.below rfl).mono hB1.size)⟩
    | true =>
      rw [if_neg (by simp)]
      by_cases h3 : mb ≠ 0 ∧ mb < n
      · rw [if_pos h3]
        obtain ⟨h3a, h3b⟩ := h3
        refine walkT ?_
        exact k_ret1 rfl rfl fun w hw => ⟨rfl, hB1.trans ((hw.below rfl).mono hB1.size)⟩
      rw [if_neg h3]
      apply k_join (σ := Unit) (fun _ => [(2, .pointer (some ⟨rb, 0, none⟩)), (3, .pointer (some ⟨ib, 0, none⟩)), (5, v), (7, .int .i64 0), (43, .bool (decide ((0 : Int) < dists.length))), (44, .bool (decide ((0 : Int) < dists.length)))]) (fun _ => []) (fun _ => True)
      · intro key
        by_cases h0 : mb = 0
        · refine walkT ?_
          exact key _ _ () (by repeat (first | exact Sub.nil | refine Sub.cons rfl ?_)) (by repeat (first | exact SubO.nil | refine SubO.keep ?_ | refine SubO.drop rfl ?_)) trivial
        · have h0' : ¬ mb < n := fun h => h3 ⟨h0, h⟩
          refine walkT ?_
          exact key _ _ () (by repeat (first | exact Sub.nil | refine Sub.cons rfl ?_)) (by repeat (first | exact SubO.nil | refine SubO.keep ?_ | refine SubO.drop rfl ?_)) trivial
      rintro ⟨⟩ -
      by_cases hl : 0 < dists.length
      · rw [decide_eq_true (by omega : (0 : Int) < dists.length)]
        by_cases hde : d = ⟨#[]⟩
        · rw [if_neg (fun h => h.2.1 hde)]
          refine walkT ?_
          exact k_ret1 rfl rfl fun w hw => ⟨rfl, hB1.trans ((hw.below rfl).mono hB1.size)⟩
        · refine walkT ?_
          refine k_callb (v := .bool (Lib.containsS dists d)) (by kernel_rfl) rfl rfl (fun w hw => has_any _ _ d w (hd1.ext (hw.below rfl)) (by omega)) ?_
          cases hcn : Lib.containsS dists d with
          | true =>
            rw [if_neg (by simp)]
            refine walkT ?_
            exact k_ret1 rfl rfl fun w hw => ⟨rfl, hB1.trans ((hw.below rfl).mono hB1.size)⟩
          | false =>
            rw [if_pos ⟨hl, hde, rfl⟩]
            refine walkT ?_
            exact k_ret1 rfl rfl fun w hw => ⟨rfl, hB1.trans ((hw.below rfl).mono hB1.size)⟩
      · rw [decide_eq_false (by omega : ¬ (0 : Int) < dists.length), if_neg (fun h => hl h.1)]
        refine walkT ?_
        exact k_ret1 rfl rfl fun w hw => ⟨rfl, hB1.trans ((hw.below rfl).mono hB1.size)⟩
end Go.Proofs.YtddiecdoaggaaaaGreatDoor
