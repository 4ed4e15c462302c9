/- The walk of the reference's class. -/
import Derived.Test.YtddiecdoaggaaaaGreatDoorRefM
namespace Go.Proofs.YtddiecdoaggaaaaGreatDoor
open Go.RowKit

theorem byteAt_drop (l : List UInt8) (k j : Nat) : byteAt (l.drop k) j = byteAt l (k + j) := by
  unfold byteAt; rw [List.getElem?_drop]
/-- What class leaves. -/
def RClassPost (l : List UInt8) (k : Nat) (r : World) (e : Ending) (w' : World) : Prop := Below r.heap.size r w' ∧ match clsP (l.drop k) with
  | none => ∃ g, e = .returned (.tuple #[.agg (Value.bool false :: tbl 128 g).toArray, .int .i64 (-1)])
  | some (set, n) => e = .returned (.tuple #[.agg (refC (.cls set (clsInv (l.drop k)))).toArray, .int .i64 ((k + n : Nat) : Int)])
theorem rcp_none {l : List UInt8} {k : Nat} {r w' : World} {e : Ending} {g : Nat → Bool} (h : clsP (l.drop k) = none) (he : e = .returned (.tuple #[.agg (Value.bool false :: tbl 128 g).toArray, .int .i64 (-1)])) (hb : Below r.heap.size r w') : RClassPost l k r e w' := by
  unfold RClassPost; rw [h]; exact ⟨hb, g, he⟩
theorem rcp_some {l : List UInt8} {k : Nat} {r w' : World} {e : Ending} {set : ByteArray} {n : Nat} (h : clsP (l.drop k) = some (set, n)) (he : e = .returned (.tuple #[.agg (refC (.cls set (clsInv (l.drop k)))).toArray, .int .i64 ((k + n : Nat) : Int)])) (hb : Below r.heap.size r w') : RClassPost l k r e w' := by
  unfold RClassPost; rw [h]; exact ⟨hb, he⟩
theorem clsInv_drop {l : List UInt8} {k : Nat} (hk : k < l.length) (h : (byteAt l k).toNat = 91) : clsInv (l.drop k) = decide (k + 1 < l.length ∧ (byteAt l (k + 1)).toNat = 94) := by
  have h0 : l[k] = 91 := UInt8.toNat_inj.1 (by unfold byteAt at h; rw [List.getElem?_eq_getElem hk] at h; exact h)
  rw [List.drop_eq_getElem_cons hk, h0]
  unfold clsInv Lib.hasPrefix byteAt
  by_cases h1 : k + 1 < l.length
  · rw [List.drop_eq_getElem_cons h1, List.getElem?_eq_getElem h1, Bool.eq_iff_iff, decide_eq_true_iff]
    have : (94 : UInt8) = l[k+1] ↔ l[k+1].toNat = 94 := ⟨fun h => by rw [← h]; rfl, fun h => UInt8.toNat_inj.1 h.symm⟩
    simp [List.isPrefixOf, this, h1]
  · rw [List.drop_eq_nil_of_le (by omega), decide_eq_false (fun h => h1 h.1)]
    rfl
theorem alnumS_any (c : UInt8) (r : World) : Calls Tryz.prog 84 #[.int .u8 c.toNat] r fun e w' => e = .returned (.int .i64 (sortN c.toNat)) ∧ Below r.heap.size r w' := alnum_any c r
theorem sortN_nn (n : Nat) : 0 ≤ sortN n := by unfold sortN; repeat (first | split | omega)
theorem named_sort {c : UInt8} (h : 0 < sortN c.toNat) : namedB c = true := decide_eq_true (sort_chars h)
theorem mem_app {a b : ByteArray} {c : UInt8} : c ∈ (a ++ b).data.toList ↔ c ∈ a.data.toList ∨ c ∈ b.data.toList := by
  rw [ByteArray.data_append, Array.toList_append, List.mem_append]
theorem named_between {a b c : UInt8} (h : c ∈ (betweenB a b).data.toList) : namedB c = true := by
  rw [between_data] at h
  have h1 : c ∈ charsB.data.toList := List.mem_of_mem_drop (List.mem_of_mem_take h)
  unfold namedB charIdx
  rw [indexByte_iff, any_toNat]
  exact decide_eq_true h1
set_option maxRecDepth 100000
attribute [local irreducible] K KS KLeft KRound J OV EV EU Blk wpList Code.wp bodyPost Exit.then Exit.inBlock Round Left Hid JS wpStill wpHeld Calls
attribute [local irreducible] namedB byteAt inSet clsGo sortN
set_option maxHeartbeats 4000000 in
theorem refClass_any (s : ByteArray) (k : Nat) (r : World) (hk : k < s.size) (hs : s.size ≤ 1000) (h91 : (byteAt s.data.toList k).toNat = 91) :
    Calls Tryz.prog 65 #[.string s, .int .i64 k] r fun e w' => RClassPost s.data.toList k r e w' := by
  have hlen : s.data.toList.length = s.size := len_data s
  have hL : (s.data.toList.drop k).length = s.size - k := by rw [List.length_drop, hlen]
  have hinv := clsInv_drop (l := s.data.toList) (k := k) (by omega) h91
  rw [hlen] at hinv
  refine k_enter (N := 152) Tryz.func65 rfl rfl rfl ?_
  refine walkT ?_
  refine k_alloc (cs := .bool false :: tbl 128 fun _ => false) rfl (by kernel_rfl) ?_
  intro rb
  refine walkT ?_
  refine k_alloc (cs := .bool false :: tbl 128 fun _ => false) rfl (by kernel_rfl) ?_
  intro xb
  apply k_join (σ := Nat × Bool) (fun t => [(0, .string s), (4, .pointer (some ⟨rb, 0, none⟩)), (6, .pointer (some ⟨xb, 0, none⟩)), (7, .int .i64 ((k + t.1 : Nat) : Int)), (8, .bool t.2), (9, .int .i64 ((k + t.1 : Nat) : Int))]) (fun _ => [bk false xb (.bool false :: tbl 128 fun _ => false) 139, bk false rb (.bool false :: tbl 128 fun _ => false) 139]) (fun t => clsFirst (s.data.toList.drop k) = t.1 ∧ clsInv (s.data.toList.drop k) = t.2 ∧ 1 ≤ t.1 ∧ t.1 ≤ 2 ∧ k + t.1 ≤ s.size)
  · intro key
    by_cases h1 : k + 1 < s.size
    · by_cases h2 : (byteAt s.data.toList (k + 1)).toNat = 94
      · rw [decide_eq_true ⟨h1, h2⟩] at hinv
        refine walkT ?_
        exact key _ _ (2, true) (by repeat (first | exact Sub.nil | refine Sub.cons rfl ?_)) (by repeat (first | exact SubO.nil | refine SubO.keep ?_ | refine SubO.drop rfl ?_)) ⟨by unfold clsFirst; rw [hinv]; rfl, hinv, by omega, by omega, by dsimp only; omega⟩
      · rw [decide_eq_false (fun h => h2 h.2)] at hinv
        refine walkT ?_
        exact key _ _ (1, false) (by repeat (first | exact Sub.nil | refine Sub.cons rfl ?_)) (by repeat (first | exact SubO.nil | refine SubO.keep ?_ | refine SubO.drop rfl ?_)) ⟨by unfold clsFirst; rw [hinv]; rfl, hinv, by omega, by omega, by dsimp only; omega⟩
    · rw [decide_eq_false (fun h => h1 h.1)] at hinv
      refine walkT ?_
      exact key _ _ (1, false) (by repeat (first | exact Sub.nil | refine Sub.cons rfl ?_)) (by repeat (first | exact SubO.nil | refine SubO.keep ?_ | refine SubO.drop rfl ?_)) ⟨by unfold clsFirst; rw [hinv]; rfl, hinv, by omega, by omega, by dsimp only; omega⟩
  clear hinv
  rintro ⟨fst, inv⟩ ⟨hfst, hinv, hf1, hf2, hf3⟩
  dsimp only at hfst hinv hf1 hf2 hf3 ⊢
  generalize hG : clsGo (s.data.toList.drop k) fst ((s.data.toList.drop k).length + 1) fst ByteArray.empty = G
  have e0 : tbl 128 (fun _ => false) = tbl 128 (inSet ByteArray.empty) := tbl_congr fun _ _ => (inSet_empty _).symm
  refine k_loop (σ := Nat × Nat × ByteArray) (fun t => [(0, .string s), (4, .pointer (some ⟨rb, 0, none⟩)), (6, .pointer (some ⟨xb, 0, none⟩)), (7, .int .i64 ((k + t.2.1 : Nat) : Int)), (8, .bool inv), (9, .int .i64 ((k + fst : Nat) : Int))]) (fun t => [bk false xb (.bool false :: tbl 128 (inSet t.2.2)) 139, bk false rb (.bool false :: tbl 128 fun _ => false) 139])
    (fun t => fst ≤ t.2.1 ∧ k + t.2.1 ≤ s.size ∧ s.size < t.1 + (k + t.2.1) ∧ (∀ c ∈ t.2.2.data.toList, namedB c = true) ∧ clsGo (s.data.toList.drop k) fst t.1 t.2.1 t.2.2 = G) (fun t => t.1) ((s.data.toList.drop k).length + 1, fst, ByteArray.empty) (by repeat (first | exact Sub.nil | refine Sub.cons rfl ?_)) (by rw [e0]; repeat (first | exact SubO.nil | refine SubO.keep ?_ | refine SubO.drop rfl ?_)) ⟨Nat.le_refl _, hf3, by dsimp only; omega, by intro c hc; exact absurd hc (by simp), hG⟩ ?_
  rintro ⟨f, j, set⟩ ⟨hj1, hj2, hf, hset, hC⟩
  dsimp only at hj1 hj2 hf hset hC ⊢
  obtain ⟨f, rfl⟩ : ∃ m, f = m + 1 := ⟨f - 1, by omega⟩
  have hB : byteAt (s.data.toList.drop k) j = byteAt s.data.toList (k + j) := byteAt_drop _ _ _
  have hgo : goesOn (s.data.toList.drop k) j = decide (k + j < s.size ∧ ¬ (byteAt s.data.toList (k + j)).toNat = 93) := by
    unfold goesOn
    rw [hB, hL, Bool.eq_iff_iff]
    simp only [Bool.and_eq_true, Bool.not_eq_true', decide_eq_true_iff, decide_eq_false_iff_not]
    omega
  by_cases hlt : k + j < s.size
  · by_cases h93 : (byteAt s.data.toList (k + j)).toNat = 93
    · rw [decide_eq_false (fun h => h.2 h93)] at hgo
      rw [cg_end hgo] at hC
      rw [← hC] at hG
      by_cases hjf : j = fst
      · refine walkT ?_; apply k_cpA1; exact rfl; exact rfl; exact rfl; exact eC_one rfl _ _; exact eC_len _ _ _; exact eC_len _ _ _; refine walkT ?_; refine k_retc (l := [.cell 4 139, .tmp 5]) rfl (fun w hw => .cons (rv_agg 1 hw rfl rfl (eC_len _ _ _)) (.cons (.tmp rfl) .nil)) fun w hw => rcp_none ?_ rfl (hw.below rfl)
        exact clsP_end hfst hG (.inr hjf)
      have hsome := clsP_some hfst hG (by omega)
      cases inv with
      | false =>
        refine walkT ?_
        apply k_cpA1; exact rfl; exact rfl; exact rfl; exact eC_one rfl _ _; exact eC_len _ _ _; exact eC_len _ _ _
        refine walkT ?_
        refine k_retc (l := [.cell 4 139, .tmp 5]) rfl (fun w hw => .cons (rv_agg 1 hw rfl rfl (eC_len _ _ _)) (.cons (.tmp rfl) .nil)) fun w hw => rcp_some hsome ?_ (hw.below rfl)
        rw [hinv, ref_cls hset]; rfl
      | true =>
        refine walkT ?_
        refine k_loop (σ := Nat) (fun m => [(0, .string s), (4, .pointer (some ⟨rb, 0, none⟩)), (6, .pointer (some ⟨xb, 0, none⟩)), (7, .int .i64 ((k + j : Nat) : Int)), (12, .int .i64 m)]) (fun m => [bk false xb (.bool false :: tbl 128 (fun q => if q < m then namedB (UInt8.ofNat q) && !inSet set q else inSet set q)) 139, bk false rb (.bool false :: tbl 128 fun _ => false) 139])
          (fun m => m ≤ 128) (fun m => 128 - m) 0 (by repeat (first | exact Sub.nil | refine Sub.cons rfl ?_)) (by rw [show tbl 128 (fun q => if q < 0 then namedB (UInt8.ofNat q) && !inSet set q else inSet set q) = tbl 128 (inSet set) from tbl_congr fun q _ => if_neg (by omega)]; repeat (first | exact SubO.nil | refine SubO.keep ?_ | refine SubO.drop rfl ?_)) (Nat.zero_le _) ?_
        intro m hm
        by_cases hlt : m < 128
        · have hm8 : (UInt8.ofNat m).toNat = m := ofNat_small hlt
          have est : ∀ c : Bool, c = (namedB (UInt8.ofNat m) && !inSet set m) → tbl 128 (fun q => if q = m then c else if q < m then namedB (UInt8.ofNat q) && !inSet set q else inSet set q) = tbl 128 (fun q => if q < m + 1 then namedB (UInt8.ofNat q) && !inSet set q else inSet set q) := fun c hc => tbl_congr fun q _ => by
            by_cases h : q = m
            · subst h; rw [if_pos rfl, if_pos (by omega), hc]
            · rw [if_neg h]
              by_cases h2 : q < m
              · rw [if_pos h2, if_pos (by omega)]
              · rw [if_neg h2, if_neg (by omega)]
          refine walkT ?_
          refine k_callb (v := .bool (namedB (UInt8.ofNat m))) (by kernel_rfl) rfl rfl (fun w hw => charN_any (UInt8.ofNat m) _ (by rw [hm8]) w) ?_
          cases hN : namedB (UInt8.ofNat m) with
          | true =>
            refine walkT ?_
            apply k_tB0; exact rfl; exact rfl; exact rfl; omega
            rw [est _ (by rw [hN, if_neg (Nat.lt_irrefl m)]; rfl)]
            refine walkT ?_
            refine k_round (m + 1) (by repeat (first | exact Sub.nil | refine Sub.cons rfl ?_)) (by repeat (first | exact SubO.nil | refine SubO.keep ?_ | refine SubO.drop rfl ?_)) (by omega) (by omega)
          | false =>
            refine walkT ?_
            apply k_tB0; exact rfl; exact rfl; exact rfl; omega
            rw [est _ (by rw [hN]; rfl)]
            refine walkT ?_
            refine k_round (m + 1) (by repeat (first | exact Sub.nil | refine Sub.cons rfl ?_)) (by repeat (first | exact SubO.nil | refine SubO.keep ?_ | refine SubO.drop rfl ?_)) (by omega) (by omega)
        · have hm : m = 128 := by omega
          subst hm
          refine walkT ?_
          apply k_cpA1; exact rfl; exact rfl; exact rfl; exact eC_one rfl _ _; exact eC_len _ _ _; exact eC_len _ _ _
          refine walkT ?_
          refine k_retc (l := [.cell 4 139, .tmp 5]) rfl (fun w hw => .cons (rv_agg 1 hw rfl rfl (eC_len _ _ _)) (.cons (.tmp rfl) .nil)) fun w hw => rcp_some hsome ?_ (hw.below rfl)
          rw [hinv, ref_inv, tbl_congr (g := fun q => if q < 128 then namedB (UInt8.ofNat q) && !inSet set q else inSet set q) (fun q hq => (if_pos hq).symm)]; rfl
    · rw [decide_eq_true ⟨hlt, h93⟩] at hgo
      have h256 := UInt8.toNat_lt (byteAt s.data.toList (k + j))
      refine walkT ?_
      refine k_callb (v := .bool (namedB (byteAt s.data.toList (k + j)))) (by kernel_rfl) rfl rfl (fun w hw => charN_any _ _ rfl w) ?_
      cases hN : namedB (byteAt s.data.toList (k + j)) with
      | false =>
        refine walkT ?_; apply k_cpA1; exact rfl; exact rfl; exact rfl; exact eC_one rfl _ _; exact eC_len _ _ _; exact eC_len _ _ _; refine walkT ?_; refine k_retc (l := [.cell 4 139, .tmp 5]) rfl (fun w hw => .cons (rv_agg 1 hw rfl rfl (eC_len _ _ _)) (.cons (.tmp rfl) .nil)) fun w hw => rcp_none ?_ rfl (hw.below rfl)
        exact clsP_none hfst (hG.trans (hC.symm.trans (cg_bad hgo (by unfold badAt; rw [hB, hN]; rfl))))
      | true =>
        have h128 := named_small hN
        by_cases hbad : (byteAt s.data.toList (k + j)).toNat = 45 ∧ fst < j
        · obtain ⟨h45, hfj⟩ := hbad
          refine walkT ?_; apply k_cpA1; exact rfl; exact rfl; exact rfl; exact eC_one rfl _ _; exact eC_len _ _ _; exact eC_len _ _ _; refine walkT ?_; refine k_retc (l := [.cell 4 139, .tmp 5]) rfl (fun w hw => .cons (rv_agg 1 hw rfl rfl (eC_len _ _ _)) (.cons (.tmp rfl) .nil)) fun w hw => rcp_none ?_ rfl (hw.below rfl)
          exact clsP_none hfst (hG.trans (hC.symm.trans (cg_bad hgo (by unfold badAt; rw [hB, decide_eq_true h45, decide_eq_true hfj]; simp))))
        have hnb : badAt (s.data.toList.drop k) fst j = false := by
          unfold badAt
          rw [hB, hN, Bool.eq_false_iff]
          intro h
          simp at h
          exact hbad h
        by_cases hsg : (byteAt s.data.toList (k + j)).toNat = 45 ∨ s.size ≤ k + j + 1 ∨ ¬ (byteAt s.data.toList (k + j + 1)).toNat = 45
        · have hone : singleOk (s.data.toList.drop k) j = true := by
            unfold singleOk
            rw [hB, byteAt_drop, hL]
            simp only [Bool.or_eq_true, decide_eq_true_iff, Bool.not_eq_true', decide_eq_false_iff_not]
            rw [show k + (j + 1) = k + j + 1 by omega]
            omega
          rw [cg_one hgo hnb hone, hB] at hC
          have est : tbl 128 (fun q => if q = (byteAt s.data.toList (k + j)).toNat then true else inSet set q) = tbl 128 (inSet (set ++ ⟨#[byteAt s.data.toList (k + j)]⟩)) := tbl_congr fun q _ => by
            rw [inSet_app, inSet_one]
            by_cases h : q = (byteAt s.data.toList (k + j)).toNat
            · rw [if_pos h, h]; simp
            · rw [if_neg h]
              have : ((byteAt s.data.toList (k + j)).toNat == q) = false := by simpa using Ne.symm h
              rw [this, Bool.or_false]
          have hset' : ∀ c ∈ (set ++ ⟨#[byteAt s.data.toList (k + j)]⟩ : ByteArray).data.toList, namedB c = true := fun c hc => by
            rcases mem_app.1 hc with h | h
            · exact hset c h
            · have : c = byteAt s.data.toList (k + j) := by simpa using h
              rw [this]; exact hN
          by_cases h45 : (byteAt s.data.toList (k + j)).toNat = 45
          · refine walkT ?_; apply k_tB0; exact rfl; exact rfl; exact rfl; omega; rw [est]; refine walkT ?_; refine k_round (f, j + 1, set ++ ⟨#[byteAt s.data.toList (k + j)]⟩) (by repeat (first | exact Sub.nil | refine Sub.cons rfl ?_)) (by repeat (first | exact SubO.nil | refine SubO.keep ?_ | refine SubO.drop rfl ?_)) ⟨by dsimp only; omega, by dsimp only; omega, by dsimp only; omega, hset', hC⟩ (by dsimp only; omega)
          · by_cases hl1 : k + j + 1 < s.size
            · have h45' : ¬ (byteAt s.data.toList (k + j + 1)).toNat = 45 := by omega
              refine walkT ?_; apply k_tB0; exact rfl; exact rfl; exact rfl; omega; rw [est]; refine walkT ?_; refine k_round (f, j + 1, set ++ ⟨#[byteAt s.data.toList (k + j)]⟩) (by repeat (first | exact Sub.nil | refine Sub.cons rfl ?_)) (by repeat (first | exact SubO.nil | refine SubO.keep ?_ | refine SubO.drop rfl ?_)) ⟨by dsimp only; omega, by dsimp only; omega, by dsimp only; omega, hset', hC⟩ (by dsimp only; omega)
            · refine walkT ?_; apply k_tB0; exact rfl; exact rfl; exact rfl; omega; rw [est]; refine walkT ?_; refine k_round (f, j + 1, set ++ ⟨#[byteAt s.data.toList (k + j)]⟩) (by repeat (first | exact Sub.nil | refine Sub.cons rfl ?_)) (by repeat (first | exact SubO.nil | refine SubO.keep ?_ | refine SubO.drop rfl ?_)) ⟨by dsimp only; omega, by dsimp only; omega, by dsimp only; omega, hset', hC⟩ (by dsimp only; omega)
        · have h45 : ¬ (byteAt s.data.toList (k + j)).toNat = 45 := fun h => hsg (.inl h)
          have hl1 : k + j + 1 < s.size := by omega
          have h45' : (byteAt s.data.toList (k + j + 1)).toNat = 45 := by omega
          have hone : singleOk (s.data.toList.drop k) j = false := by
            unfold singleOk
            rw [hB, byteAt_drop, hL, Bool.eq_false_iff]
            simp only [ne_eq, Bool.or_eq_true, decide_eq_true_iff, Bool.not_eq_true', decide_eq_false_iff_not]
            rw [show k + (j + 1) = k + j + 1 by omega]
            omega
          have hrange : rangeOk (s.data.toList.drop k) j = decide (k + j + 2 < s.size ∧ 0 < sortN (byteAt s.data.toList (k + j)).toNat ∧ sortN (byteAt s.data.toList (k + j)).toNat = sortN (byteAt s.data.toList (k + j + 2)).toNat ∧ (byteAt s.data.toList (k + j)).toNat ≤ (byteAt s.data.toList (k + j + 2)).toNat) := by
            unfold rangeOk
            rw [hB, byteAt_drop, hL, show k + (j + 2) = k + j + 2 by omega, Bool.eq_iff_iff]
            simp only [Bool.and_eq_true, decide_eq_true_iff]
            omega
          have hnone : rangeOk (s.data.toList.drop k) j = false → clsP (s.data.toList.drop k) = none := fun h => clsP_none hfst (hG.trans (hC.symm.trans (cg_none hgo hnb hone h)))
          have hsa := sortN_nn (byteAt s.data.toList (k + j)).toNat
          by_cases hl2 : k + j + 2 < s.size
          · refine walkT ?_
            refine k_callb (v := .int .i64 (sortN (byteAt s.data.toList (k + j)).toNat)) (by kernel_rfl) rfl rfl (fun w hw => alnumS_any _ w) ?_
            by_cases hs0 : sortN (byteAt s.data.toList (k + j)).toNat = 0
            · refine walkT ?_; apply k_cpA1; exact rfl; exact rfl; exact rfl; exact eC_one rfl _ _; exact eC_len _ _ _; exact eC_len _ _ _; refine walkT ?_; refine k_retc (l := [.cell 4 139, .tmp 5]) rfl (fun w hw => .cons (rv_agg 1 hw rfl rfl (eC_len _ _ _)) (.cons (.tmp rfl) .nil)) fun w hw => rcp_none ?_ rfl (hw.below rfl)
              exact hnone (by rw [hrange]; exact decide_eq_false (by omega))
            refine walkT ?_
            refine k_callb (v := .int .i64 (sortN (byteAt s.data.toList (k + j + 2)).toNat)) (by kernel_rfl) rfl rfl (fun w hw => alnumS_any _ w) ?_
            refine walkT ?_
            refine k_callb (v := .int .i64 (sortN (byteAt s.data.toList (k + j)).toNat)) (by kernel_rfl) rfl rfl (fun w hw => alnumS_any _ w) ?_
            by_cases hse : sortN (byteAt s.data.toList (k + j + 2)).toNat = sortN (byteAt s.data.toList (k + j)).toNat
            · by_cases hab : (byteAt s.data.toList (k + j + 2)).toNat < (byteAt s.data.toList (k + j)).toNat
              · refine walkT ?_; apply k_cpA1; exact rfl; exact rfl; exact rfl; exact eC_one rfl _ _; exact eC_len _ _ _; exact eC_len _ _ _; refine walkT ?_; refine k_retc (l := [.cell 4 139, .tmp 5]) rfl (fun w hw => .cons (rv_agg 1 hw rfl rfl (eC_len _ _ _)) (.cons (.tmp rfl) .nil)) fun w hw => rcp_none ?_ rfl (hw.below rfl)
                exact hnone (by rw [hrange]; exact decide_eq_false (by omega))
              · have hb128 : (byteAt s.data.toList (k + j + 2)).toNat < 128 := named_small (named_sort (by omega))
                rw [decide_eq_true ⟨hl2, by omega, hse.symm, by omega⟩] at hrange
                rw [cg_range hgo hnb hone hrange, hB, byteAt_drop, show k + (j + 2) = k + j + 2 by omega] at hC
                have hrec : ∀ q, inSet (set ++ betweenB (byteAt s.data.toList (k + j)) (byteAt s.data.toList (k + j + 2))) q = (inSet set q || (decide ((byteAt s.data.toList (k + j)).toNat ≤ q) && decide (q ≤ (byteAt s.data.toList (k + j + 2)).toNat))) := fun q => by
                  rw [inSet_app, inSet_between (by omega) hse.symm (by omega)]
                have hset' : ∀ c ∈ (set ++ betweenB (byteAt s.data.toList (k + j)) (byteAt s.data.toList (k + j + 2)) : ByteArray).data.toList, namedB c = true := fun c hc => by
                  rcases mem_app.1 hc with h | h
                  · exact hset c h
                  · exact named_between h
                have est0 : tbl 128 (inSet set) = tbl 128 (fun q => inSet set q || (decide ((byteAt s.data.toList (k + j)).toNat ≤ q) && decide (q < (byteAt s.data.toList (k + j)).toNat))) := tbl_congr fun q _ => by
                  have : (decide ((byteAt s.data.toList (k + j)).toNat ≤ q) && decide (q < (byteAt s.data.toList (k + j)).toNat)) = false := by
                    rw [Bool.eq_false_iff]; intro h; simp at h; omega
                  rw [this, Bool.or_false]
                refine walkT ?_
                rw [est0]
                refine k_loop (σ := Nat) (fun m => [(0, .string s), (4, .pointer (some ⟨rb, 0, none⟩)), (6, .pointer (some ⟨xb, 0, none⟩)), (7, .int .i64 ((k + j : Nat) : Int)), (8, .bool inv), (9, .int .i64 ((k + fst : Nat) : Int)), (11, .int .i64 m)]) (fun m => [bk false xb (.bool false :: tbl 128 (fun q => inSet set q || (decide ((byteAt s.data.toList (k + j)).toNat ≤ q) && decide (q < m)))) 139, bk false rb (.bool false :: tbl 128 fun _ => false) 139])
                  (fun m => (byteAt s.data.toList (k + j)).toNat ≤ m ∧ m ≤ (byteAt s.data.toList (k + j + 2)).toNat + 1) (fun m => 256 - m) (byteAt s.data.toList (k + j)).toNat (by repeat (first | exact Sub.nil | refine Sub.cons rfl ?_)) (by repeat (first | exact SubO.nil | refine SubO.keep ?_ | refine SubO.drop rfl ?_)) ⟨Nat.le_refl _, by omega⟩ ?_
                rintro m ⟨hm1, hm2⟩
                by_cases hlt4 : m ≤ (byteAt s.data.toList (k + j + 2)).toNat
                · have est4 : tbl 128 (fun q => if q = m then true else inSet set q || (decide ((byteAt s.data.toList (k + j)).toNat ≤ q) && decide (q < m))) = tbl 128 (fun q => inSet set q || (decide ((byteAt s.data.toList (k + j)).toNat ≤ q) && decide (q < m + 1))) := tbl_congr fun q _ => by
                    by_cases h : q = m
                    · subst h; rw [if_pos rfl, decide_eq_true hm1, decide_eq_true (Nat.lt_succ_self q)]; simp
                    · rw [if_neg h]; congr 2; rw [decide_eq_decide]; omega
                  refine walkT ?_
                  apply k_tB0; exact rfl; exact rfl; exact rfl; omega
                  rw [est4]
                  refine walkT ?_
                  refine k_round (m + 1) (by repeat (first | exact Sub.nil | refine Sub.cons rfl ?_)) (by repeat (first | exact SubO.nil | refine SubO.keep ?_ | refine SubO.drop rfl ?_)) ⟨by omega, by omega⟩ (by omega)
                · have est5 : tbl 128 (fun q => inSet set q || (decide ((byteAt s.data.toList (k + j)).toNat ≤ q) && decide (q < m))) = tbl 128 (inSet (set ++ betweenB (byteAt s.data.toList (k + j)) (byteAt s.data.toList (k + j + 2)))) := tbl_congr fun q _ => by
                    rw [hrec]; congr 2; rw [decide_eq_decide]; omega
                  rw [est5]
                  refine walkT ?_
                  refine k_round (f, j + 3, set ++ betweenB (byteAt s.data.toList (k + j)) (byteAt s.data.toList (k + j + 2))) (by repeat (first | exact Sub.nil | refine Sub.cons rfl ?_)) (by repeat (first | exact SubO.nil | refine SubO.keep ?_ | refine SubO.drop rfl ?_)) ⟨by dsimp only; omega, by dsimp only; omega, by dsimp only; omega, hset', hC⟩ (by dsimp only; omega)
            · refine walkT ?_; apply k_cpA1; exact rfl; exact rfl; exact rfl; exact eC_one rfl _ _; exact eC_len _ _ _; exact eC_len _ _ _; refine walkT ?_; refine k_retc (l := [.cell 4 139, .tmp 5]) rfl (fun w hw => .cons (rv_agg 1 hw rfl rfl (eC_len _ _ _)) (.cons (.tmp rfl) .nil)) fun w hw => rcp_none ?_ rfl (hw.below rfl)
              exact hnone (by rw [hrange]; exact decide_eq_false (by omega))
          · refine walkT ?_; apply k_cpA1; exact rfl; exact rfl; exact rfl; exact eC_one rfl _ _; exact eC_len _ _ _; exact eC_len _ _ _; refine walkT ?_; refine k_retc (l := [.cell 4 139, .tmp 5]) rfl (fun w hw => .cons (rv_agg 1 hw rfl rfl (eC_len _ _ _)) (.cons (.tmp rfl) .nil)) fun w hw => rcp_none ?_ rfl (hw.below rfl)
            exact hnone (by rw [hrange]; exact decide_eq_false (by omega))
  · rw [decide_eq_false (fun h => hlt h.1)] at hgo
    rw [cg_end hgo] at hC
    rw [← hC] at hG
    refine walkT ?_; apply k_cpA1; exact rfl; exact rfl; exact rfl; exact eC_one rfl _ _; exact eC_len _ _ _; exact eC_len _ _ _; refine walkT ?_; refine k_retc (l := [.cell 4 139, .tmp 5]) rfl (fun w hw => .cons (rv_agg 1 hw rfl rfl (eC_len _ _ _)) (.cons (.tmp rfl) .nil)) fun w hw => rcp_none ?_ rfl (hw.below rfl)
    exact clsP_end hfst hG (.inl (by omega))
end Go.Proofs.YtddiecdoaggaaaaGreatDoor
