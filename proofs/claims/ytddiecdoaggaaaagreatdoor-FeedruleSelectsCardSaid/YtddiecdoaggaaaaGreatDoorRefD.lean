/- The walk of the reference's Compile. -/
import Derived.Test.YtddiecdoaggaaaaGreatDoorRefC
namespace Go.Proofs.YtddiecdoaggaaaaGreatDoor
open Go.RowKit

theorem named_not {c : UInt8} (h : c.toNat = 42 ∨ c.toNat = 63 ∨ c.toNat = 91) : namedB c = false := by
  rcases h with h | h | h
  · rw [show c = 42 from UInt8.toNat_inj.1 h]; decide +kernel
  · rw [show c = 63 from UInt8.toNat_inj.1 h]; decide +kernel
  · rw [show c = 91 from UInt8.toNat_inj.1 h]; decide +kernel
/-- What Compile leaves. -/
def RCompPost (s : ByteArray) (r : World) (e : Ending) (w' : World) : Prop := match compP s.data.toList with
  | .inr (i, c) => e = .returned (.tuple #[.agg #[.string ⟨#[]⟩, .slice none 0 0], .int .i64 i, .int .i64 c]) ∧ Below r.heap.size r w'
  | .inl els => ∃ v, e = .returned (.tuple #[.agg #[.string s, v], .int .i64 0, .int .i64 0]) ∧ els.length ≤ 80 ∧ Sat r [row false v els.length (els.flatMap refC) 139 129] w'
theorem rcq_err {s : ByteArray} {r w' : World} {e : Ending} {i c : Nat} (h : compP s.data.toList = .inr (i, c)) (he : e = .returned (.tuple #[.agg #[.string ⟨#[]⟩, .slice none 0 0], .int .i64 i, .int .i64 c])) (hb : Below r.heap.size r w') : RCompPost s r e w' := by
  unfold RCompPost; rw [h]; exact ⟨he, hb⟩
theorem rcq_ok {s : ByteArray} {r w' : World} {e : Ending} {els : List Elem} {v : Value} (h : compP s.data.toList = .inl els) (he : e = .returned (.tuple #[.agg #[.string s, v], .int .i64 0, .int .i64 0])) (hl : els.length ≤ 80) (hb : Sat r [row false v els.length (els.flatMap refC) 139 129] w') : RCompPost s r e w' := by
  unfold RCompPost; rw [h]; exact ⟨v, he, hl, hb⟩
theorem flat_snoc (els : List Elem) (x : Elem) : (els ++ [x]).flatMap refC = els.flatMap refC ++ refC x := by
  rw [List.flatMap_append]; simp
set_option maxRecDepth 100000
attribute [local irreducible] K KS KLeft KRound J OV EV EU Blk wpList Code.wp bodyPost Exit.then Exit.inBlock Round Left Hid JS wpStill wpHeld Calls
attribute [local irreducible] namedB byteAt inSet clsP comp clsInv refC
set_option maxHeartbeats 4000000 in
theorem refCompile_any (s : ByteArray) (r : World) (hs : s.size ≤ 9223372036854775807) : Calls Tryz.prog 43 #[.string s] r fun e w' => RCompPost s r e w' := by
  have hlen : s.data.toList.length = s.size := len_data s
  refine k_enter (N := 88) Tryz.func43 rfl rfl rfl ?_
  refine walkT ?_
  refine k_alloc (cs := [.string ⟨#[]⟩, .slice none 0 0]) rfl rfl ?_
  intro rb
  by_cases h0 : s = ⟨#[]⟩
  · have hz : s.size = 0 := by rw [h0]; rfl
    refine walkT ?_
    refine k_op rfl (fun _ _ => ov_build (vs := []) (cells := #[.string ⟨#[]⟩, .slice none 0 0]) rfl (by kernel_rfl)) ?_
    refine k_stE0 [.string ⟨#[]⟩, .slice none 0 0] rfl rfl rfl rfl rfl rfl (by rfl) ?_
    refine walkT ?_; refine k_retc (l := [.cell 2 110, .tmp 3, .tmp 4]) rfl (fun w hw => .cons (by first | exact rv_agg 0 hw rfl rfl rfl | exact rv_agg 1 hw rfl rfl rfl | exact rv_agg 2 hw rfl rfl rfl | exact rv_agg 3 hw rfl rfl rfl | exact rv_agg 4 hw rfl rfl rfl) (.cons (.tmp rfl) (.cons (.tmp rfl) .nil))) fun w hw => ?_
    exact rcq_err (by unfold compP; rw [if_pos (by omega)]) rfl (hw.below rfl)
  have h1 : s.size ≠ 0 := fun h => h0 (by
    cases s with | mk d => simp [ByteArray.size] at h; rw [h])
  by_cases h80 : 80 < s.size
  · refine walkT ?_
    refine k_op rfl (fun _ _ => ov_build (vs := []) (cells := #[.string ⟨#[]⟩, .slice none 0 0]) rfl (by kernel_rfl)) ?_
    refine k_stE0 [.string ⟨#[]⟩, .slice none 0 0] rfl rfl rfl rfl rfl rfl (by rfl) ?_
    refine walkT ?_; refine k_retc (l := [.cell 2 110, .tmp 3, .tmp 4]) rfl (fun w hw => .cons (by first | exact rv_agg 0 hw rfl rfl rfl | exact rv_agg 1 hw rfl rfl rfl | exact rv_agg 2 hw rfl rfl rfl | exact rv_agg 3 hw rfl rfl rfl | exact rv_agg 4 hw rfl rfl rfl) (.cons (.tmp rfl) (.cons (.tmp rfl) .nil))) fun w hw => ?_
    exact rcq_err (by unfold compP; rw [if_neg (by omega), if_pos (by omega)]) rfl (hw.below rfl)
  have hc : compP s.data.toList = comp s.data.toList (s.size + 1) 0 [] := by unfold compP; rw [if_neg (by omega), if_neg (by omega), hlen]
  generalize hG : comp s.data.toList (s.size + 1) 0 [] = G at hc
  refine walkT ?_
  refine k_op rfl (fun _ _ => ov_build (vs := [.string s]) (cells := #[.string s, .slice none 0 0]) rfl (by kernel_rfl)) ?_
  refine k_alloc (cs := [.string ⟨#[]⟩, .slice none 0 0]) rfl rfl ?_
  intro pb
  refine k_stE0 [.string s, .slice none 0 0] rfl rfl rfl rfl rfl rfl (by rfl) ?_
  refine walkT ?_
  refine k_nilrow 139 129 ?_
  refine k_loop (σ := Nat × Nat × List Elem × Value) (fun t => [(0, .string s), (2, .pointer (some ⟨rb, 0, none⟩)), (5, .pointer (some ⟨pb, 0, none⟩)), (6, .int .i64 t.2.1)]) (fun t => [row false t.2.2.2 t.2.2.1.length (t.2.2.1.flatMap refC) 139 129, bk false pb [.string s, t.2.2.2] 110, bk false rb [.string ⟨#[]⟩, .slice none 0 0] 110])
    (fun t => t.2.1 ≤ s.size ∧ s.size < t.1 + t.2.1 ∧ t.2.2.1.length ≤ t.2.1 ∧ comp s.data.toList t.1 t.2.1 t.2.2.1 = G) (fun t => t.1) (s.size + 1, 0, [], .slice none 0 0) (by repeat (first | exact Sub.nil | refine Sub.cons rfl ?_)) (by repeat (first | exact SubO.nil | refine SubO.keep ?_ | refine SubO.drop rfl ?_)) ⟨Nat.zero_le _, by dsimp only; omega, Nat.le_refl _, hG⟩ ?_
  rintro ⟨f, k, els, v⟩ ⟨hk, hf, hn, hC⟩
  dsimp only at hk hf hn hC ⊢
  obtain ⟨f, rfl⟩ : ∃ m, f = m + 1 := ⟨f - 1, by omega⟩
  refine k_rowslice 0 rfl ?_
  rintro ⟨ea, cap, rfl⟩
  by_cases hlt : k < s.size
  · have hkl : k < s.data.toList.length := by omega
    have h256 := UInt8.toNat_lt (byteAt s.data.toList k)
    refine walkT ?_
    refine k_alloc (cs := .bool false :: tbl 128 fun _ => false) rfl (by kernel_rfl) ?_
    intro xb
    apply k_join (σ := Elem) (fun x => [(0, .string s), (2, .pointer (some ⟨rb, 0, none⟩)), (5, .pointer (some ⟨pb, 0, none⟩)), (6, .int .i64 k), (80, .slice ea els.length cap), (81, .agg (refC x).toArray)]) (fun _ => [row false (.slice ea els.length cap) els.length (els.flatMap refC) 139 129, bk false pb [.string s, .slice ea els.length cap] 110, bk false rb [.string ⟨#[]⟩, .slice none 0 0] 110]) (fun x => comp s.data.toList f (k + 1) (els ++ [x]) = G)
    · intro key
      by_cases h42 : (byteAt s.data.toList k).toNat = 42
      · rw [comp_star hkl (named_not (.inl h42)) h42] at hC
        refine walkT ?_
        rw [show ((Value.bool false :: tbl 128 fun _ => false).set (0 + 0) (.bool true)) = refC .star from ref_star.symm]
        exact key _ _ .star (by repeat (first | exact Sub.nil | refine Sub.cons rfl ?_)) (by repeat (first | exact SubO.nil | refine SubO.keep ?_ | refine SubO.drop rfl ?_)) hC
      by_cases h63 : (byteAt s.data.toList k).toNat = 63
      · rw [comp_any hkl (named_not (.inr (.inl h63))) h63] at hC
        refine walkT ?_
        refine k_loop (σ := Nat) (fun m => [(0, .string s), (2, .pointer (some ⟨rb, 0, none⟩)), (5, .pointer (some ⟨pb, 0, none⟩)), (6, .int .i64 k), (7, .pointer (some ⟨xb, 0, none⟩)), (8, .int .i64 m)]) (fun m => [bk false xb (.bool false :: tbl 128 (fun q => decide (q < m) && namedB (UInt8.ofNat q))) 139, row false (.slice ea els.length cap) els.length (els.flatMap refC) 139 129, bk false pb [.string s, .slice ea els.length cap] 110, bk false rb [.string ⟨#[]⟩, .slice none 0 0] 110])
          (fun m => m ≤ 128) (fun m => 128 - m) 0 (by repeat (first | exact Sub.nil | refine Sub.cons rfl ?_)) (by rw [show tbl 128 (fun q => decide (q < 0) && namedB (UInt8.ofNat q)) = tbl 128 (fun _ => false) from tbl_congr fun q _ => by simp]; repeat (first | exact SubO.nil | refine SubO.keep ?_ | refine SubO.drop rfl ?_)) (Nat.zero_le _) ?_
        intro m hm
        by_cases hlt3 : m < 128
        · have hm8 : (UInt8.ofNat m).toNat = m := ofNat_small hlt3
          have est : tbl 128 (fun q => if q = m then namedB (UInt8.ofNat m) else decide (q < m) && namedB (UInt8.ofNat q)) = tbl 128 (fun q => decide (q < m + 1) && namedB (UInt8.ofNat q)) := tbl_congr fun q _ => by
            by_cases h : q = m
            · subst h; rw [if_pos rfl, decide_eq_true (Nat.lt_succ_self q)]; simp
            · rw [if_neg h]; congr 1; rw [decide_eq_decide]; omega
          refine walkT ?_
          refine k_callb (v := .bool (namedB (UInt8.ofNat m))) (by kernel_rfl) rfl rfl (fun w hw => charN_any (UInt8.ofNat m) _ (by rw [hm8]) w) ?_
          refine walkT ?_
          apply k_tB0; exact rfl; exact rfl; exact rfl; omega
          rw [est]
          refine walkT ?_
          refine k_round (m + 1) (by repeat (first | exact Sub.nil | refine Sub.cons rfl ?_)) (by repeat (first | exact SubO.nil | refine SubO.keep ?_ | refine SubO.drop rfl ?_)) (by omega) (by omega)
        · have hm : m = 128 := by omega
          subst hm
          rw [show (Value.bool false :: tbl 128 (fun q => decide (q < 128) && namedB (UInt8.ofNat q))) = refC (.cls ByteArray.empty true) from by rw [ref_any, tbl_congr (g := fun q => namedB (UInt8.ofNat q)) (fun q hq => by rw [decide_eq_true hq, Bool.true_and])]]
          have hrl := refC_length (.cls ByteArray.empty true)
          refine walkT ?_
          exact key _ _ (.cls ByteArray.empty true) (by repeat (first | exact Sub.nil | refine Sub.cons rfl ?_)) (by repeat (first | exact SubO.nil | refine SubO.keep ?_ | refine SubO.drop rfl ?_)) hC
      by_cases h91 : (byteAt s.data.toList k).toNat = 91
      · refine walkT ?_
        refine k_call (by kernel_rfl) rfl rfl (fun w hw => refClass_any s k w hlt (by omega) h91) ?_
        rintro w e w1 hw ⟨hx, hE⟩
        have hS1 := hw.ext hx
        cases hP : clsP (s.data.toList.drop k) with
        | none =>
          rw [hP] at hE
          obtain ⟨g, rfl⟩ := hE
          rw [comp_no hkl (named_not (.inr (.inr h91))) h91 hP] at hC
          rw [← hC] at hc
          refine ⟨_, rfl, j_of_k hS1 ?_⟩
          refine walkT ?_
          refine k_alloc (cs := .bool false :: tbl 128 fun _ => false) rfl (by kernel_rfl) ?_
          intro yb
          apply k_cpA0; exact rfl; exact rfl; exact rfl; exact eC_one rfl _ _; exact eC_len _ _ _; exact eC_len _ _ _
          refine walkT ?_
          refine k_op rfl (fun _ _ => ov_build (vs := []) (cells := #[.string ⟨#[]⟩, .slice none 0 0]) rfl (by kernel_rfl)) ?_
          refine walkT ?_
          refine k_stE4 [.string ⟨#[]⟩, .slice none 0 0] rfl rfl rfl rfl rfl rfl (by rfl) ?_
          refine walkT ?_; refine k_retc (l := [.cell 2 110, .tmp 3, .tmp 4]) rfl (fun w hw => .cons (by first | exact rv_agg 0 hw rfl rfl rfl | exact rv_agg 1 hw rfl rfl rfl | exact rv_agg 2 hw rfl rfl rfl | exact rv_agg 3 hw rfl rfl rfl | exact rv_agg 4 hw rfl rfl rfl) (.cons (.tmp rfl) (.cons (.tmp rfl) .nil))) fun w hw => ?_
          exact rcq_err hc rfl (hw.below rfl)
        | some sn =>
          obtain ⟨set, n⟩ := sn
          rw [hP] at hE
          dsimp only at hE
          have hnn := clsP_le hP
          rw [List.length_drop, hlen] at hnn
          rw [comp_cls hkl (named_not (.inr (.inr h91))) h91 hP] at hC
          generalize Elem.cls set (clsInv (s.data.toList.drop k)) = x at hE hC
          subst hE
          have hrl := refC_length x
          refine ⟨_, rfl, j_of_k hS1 ?_⟩
          refine walkT ?_
          refine k_alloc (cs := .bool false :: tbl 128 fun _ => false) rfl (by kernel_rfl) ?_
          intro yb
          apply k_cpA0; exact rfl; exact rfl; exact rfl; exact refC_one _; exact eC_len _ _ _; exact refC_length _
          refine walkT ?_
          refine k_app2 (cs := refC x) rfl rfl rfl (fun _ => rfl) rfl rfl (refC_length _) (refC_one _) rfl rfl rfl (by omega) (by unfold maxLen; omega) ?_
          intro v' u
          refine k_rowslice 2 rfl ?_
          rintro ⟨ea1, cap1, rfl⟩
          refine walkT ?_
          refine k_round (f, k + n, els ++ [x], .slice ea1 (els.length + 1) cap1) (by repeat (first | exact Sub.nil | refine Sub.cons rfl ?_)) (by dsimp only; rw [List.length_append, flat_snoc]; repeat (first | exact SubO.nil | refine SubO.keep ?_ | refine SubO.drop rfl ?_)) ⟨by dsimp only; omega, by dsimp only; omega, by dsimp only; rw [List.length_append, List.length_singleton]; omega, hC⟩ (by dsimp only; omega)
      refine walkT ?_
      refine k_callb (v := .bool (namedB (byteAt s.data.toList k))) (by kernel_rfl) rfl rfl (fun w hw => charN_any _ _ rfl w) ?_
      cases hN : namedB (byteAt s.data.toList k) with
      | true =>
        rw [comp_one hkl hN] at hC
        have h128 := named_small hN
        refine walkT ?_
        apply k_tB0; exact rfl; exact rfl; exact rfl; omega
        rw [show (Value.bool false :: tbl 128 (fun q => if q = (byteAt s.data.toList k).toNat then true else false)) = refC (.one (byteAt s.data.toList k)) from (ref_one _).symm]
        have hrl := refC_length (.one (byteAt s.data.toList k))
        refine walkT ?_
        exact key _ _ (.one (byteAt s.data.toList k)) (by repeat (first | exact Sub.nil | refine Sub.cons rfl ?_)) (by repeat (first | exact SubO.nil | refine SubO.keep ?_ | refine SubO.drop rfl ?_)) hC
      | false =>
        rw [comp_bad hkl hN h63 h42 h91] at hC
        rw [← hC] at hc
        refine walkT ?_
        refine k_op rfl (fun _ _ => ov_build (vs := []) (cells := #[.string ⟨#[]⟩, .slice none 0 0]) rfl (by kernel_rfl)) ?_
        refine walkT ?_
        refine k_stE3 [.string ⟨#[]⟩, .slice none 0 0] rfl rfl rfl rfl rfl rfl (by rfl) ?_
        refine walkT ?_; refine k_retc (l := [.cell 2 110, .tmp 3, .tmp 4]) rfl (fun w hw => .cons (by first | exact rv_agg 0 hw rfl rfl rfl | exact rv_agg 1 hw rfl rfl rfl | exact rv_agg 2 hw rfl rfl rfl | exact rv_agg 3 hw rfl rfl rfl | exact rv_agg 4 hw rfl rfl rfl) (.cons (.tmp rfl) (.cons (.tmp rfl) .nil))) fun w hw => ?_
        exact rcq_err hc rfl (hw.below rfl)
    intro x hC
    refine k_app0 (cs := refC x) rfl rfl rfl (fun _ => rfl) rfl rfl (refC_length _) (refC_one _) rfl rfl rfl (by omega) (by unfold maxLen; omega) ?_
    intro v' u
    refine k_rowslice 0 rfl ?_
    rintro ⟨ea1, cap1, rfl⟩
    refine walkT ?_
    refine k_round (f, k + 1, els ++ [x], .slice ea1 (els.length + 1) cap1) (by repeat (first | exact Sub.nil | refine Sub.cons rfl ?_)) (by dsimp only; rw [List.length_append, flat_snoc]; repeat (first | exact SubO.nil | refine SubO.keep ?_ | refine SubO.drop rfl ?_)) ⟨by dsimp only; omega, by dsimp only; omega, by dsimp only; rw [List.length_append, List.length_singleton]; omega, hC⟩ (by dsimp only; omega)
  · rw [comp_end (by omega)] at hC
    rw [← hC] at hc
    refine walkT ?_
    refine k_stE2 [.string s, .slice ea els.length cap] rfl rfl rfl rfl rfl rfl (by rfl) ?_
    refine walkT ?_; refine k_retc (l := [.cell 2 110, .tmp 3, .tmp 4]) rfl (fun w hw => .cons (by first | exact rv_agg 0 hw rfl rfl rfl | exact rv_agg 1 hw rfl rfl rfl | exact rv_agg 2 hw rfl rfl rfl | exact rv_agg 3 hw rfl rfl rfl | exact rv_agg 4 hw rfl rfl rfl) (.cons (.tmp rfl) (.cons (.tmp rfl) .nil))) fun w hw => ?_
    exact rcq_ok hc rfl (by omega) (hw.sub (by repeat (first | exact SubO.nil | refine SubO.keep ?_ | refine SubO.drop rfl ?_)))
end Go.Proofs.YtddiecdoaggaaaaGreatDoor
