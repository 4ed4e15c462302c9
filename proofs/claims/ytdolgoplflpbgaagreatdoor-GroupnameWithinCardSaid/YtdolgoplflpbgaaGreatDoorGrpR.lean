/- The walks of the reference's Parts, Component, Check and Compare. -/
import Derived.Test.YtdolgoplflpbgaaGreatDoorGrpP
namespace Go.Proofs.YtdolgoplflpbgaaGreatDoor
open Go.RowKit

theorem pieceG_app {l : List UInt8} {a b c : Nat} (h1 : a ≤ b) (h2 : b ≤ c) : pieceG l a b ++ pieceG l b c = pieceG l a c := by
  unfold pieceG
  have : l.drop b = (l.drop a).drop (b - a) := by rw [List.drop_drop, show a + (b - a) = b by omega]
  rw [this, show c - a = (b - a) + (c - b) by omega, List.take_add]
theorem extract_app (s : ByteArray) {a b c : Nat} (h1 : a ≤ b) (h2 : b ≤ c) : s.extract a b ++ s.extract b c = s.extract a c := by
  apply Go.WideShapes.bytes_inj
  rw [ByteArray.data_append, Array.toList_append, pieceG_data, pieceG_data, pieceG_data, pieceG_app h1 h2]
theorem extract_nil (s : ByteArray) (a : Nat) : s.extract a a = ⟨#[]⟩ := by
  apply Go.WideShapes.bytes_inj
  rw [pieceG_data]; unfold pieceG; rw [Nat.sub_self, List.take_zero]
theorem perm_all {l : List UInt8} (h : ∀ j, j < l.length → permB (byteAt l j).toNat = true) : (l.all fun c => permB c.toNat) = true := by
  rw [List.all_eq_true]
  intro x hx
  obtain ⟨i, hi, rfl⟩ := List.getElem_of_mem hx
  have := h i hi
  unfold byteAt at this
  rw [List.getElem?_eq_getElem hi] at this
  exact this
theorem perm_not {l : List UInt8} {j : Nat} (hj : j < l.length) (h : permB (byteAt l j).toNat = false) : (l.all fun c => permB c.toNat) = false := by
  rw [List.all_eq_false]
  refine ⟨l[j], List.getElem_mem _, ?_⟩
  unfold byteAt at h
  rw [List.getElem?_eq_getElem hj] at h
  simpa using h
theorem permB_iff (n : Nat) : permB n = true ↔ (97 ≤ n ∧ n ≤ 122 ∨ 48 ≤ n ∧ n ≤ 57 ∨ n = 45 ∨ n = 43 ∨ n = 95) := by unfold permB; rw [decide_eq_true_iff]
theorem own_up {w w' : World} {v : Value} {n : Nat} {xs : List Value} {e : TypeId} {sz : Nat} (h : Sat w [row false v n xs e sz] w') : w'.ownsRow w.heap.size e sz v n xs := by
  have h0 := h.row 0 rfl
  have ha := (h.all _ (List.mem_cons_self ..)).2
  obtain ⟨h1, h2⟩ := h0
  refine ⟨h1, ?_⟩
  rcases h2 with h2 | ⟨g, cap, cur, rfl, _, h4⟩
  · exact .inl h2
  · exact .inr ⟨g, cap, cur, rfl, (ha g rfl).2 rfl, h4⟩
theorem row_someG {w : World} {v : Value} {n : Nat} {xs : List Value} {e : TypeId} {sz base : Nat} (h : w.ownsRow base e sz v n xs) (hn : 0 < n) : ∃ g cap, v = .slice (some ⟨g, 0, none⟩) n cap := by
  obtain ⟨_, h2⟩ := h
  rcases h2 with ⟨_, h3⟩ | ⟨g, cap, cur, h3, _⟩
  · omega
  · exact ⟨g, cap, h3⟩
theorem k_rowsomeG {N : Nat} {env : Env} {r : World} {O : List Own} {F : Act → World → Prop} (i : Nat) {f : Bool} {v : Value} {n : Nat} {xs : List Value} {e : TypeId} {sz : Nat} (hn : 0 < n) (hO : nthO O i = some (row f v n xs e sz)) (h : (∃ g cap, v = .slice (some ⟨g, 0, none⟩) n cap) → K N env r O F) : K N env r O F := fun w hw => h (row_someG (hw.row i hO) hn) w hw
theorem ov_rowG {P : Program} {env : Env} {r w : World} {O : List Own} {f : Bool} {g n cap j : Nat} {xs : List Value} {e t : TypeId} {x : Operand} {u : Value} (i : Nat) (hw : Sat r O w) (_hg : TAgg P t false) (hx : evx env x = some (.pointer (some ⟨g, j, none⟩))) (hO : nthO O i = some (row f (.slice (some ⟨g, 0, none⟩) n cap) n xs e 1)) (hv : xs[j]? = some u) : OV P env (.load t x) w u := by
  have h := (hw.row i hO).cells (g := g) rfl j u hv
  rw [addr_add, Nat.zero_add] at h
  exact ov_load1 hx h
theorem splitK_le {c : UInt8} : ∀ (k : Nat) (l p : List UInt8), p ∈ Lib.splitK [c] 0 k l → p.length ≤ l.length := by
  intro k
  induction k with
  | zero => intro l p h; rw [Lib.splitK, List.mem_singleton] at h; rw [h]; exact Nat.le_refl _
  | succ k ih =>
    intro l p h
    rw [Lib.splitK] at h
    split at h
    · rw [List.mem_singleton] at h; rw [h]; exact Nat.le_refl _
    · rcases List.mem_cons.1 h with rfl | h
      · rw [List.length_take]; omega
      · have := ih _ _ h
        rw [List.length_drop] at this
        omega
theorem piece_le (s p : ByteArray) (h : p ∈ piecesB dotB s) : p.size ≤ s.size := by
  have h1 : p.data.toList ∈ (piecesB dotB s).map (·.data.toList) := List.mem_map.2 ⟨p, h, rfl⟩
  rw [show dotB = ⟨#[46]⟩ from rfl, pieces_data] at h1
  have := splitK_le _ _ _ h1
  rw [len_data, len_data] at this
  exact this
set_option maxRecDepth 100000
attribute [local irreducible] K KS KLeft KRound J OV EV EU Blk wpList Code.wp bodyPost Exit.then Exit.inBlock Round Left Hid JS wpStill wpHeld Calls
attribute [local irreducible] byteAt permB
set_option maxHeartbeats 2000000 in
theorem refParts_any (s : ByteArray) (c : UInt8) (r : World) (hs : s.size ≤ 1000000000) : Calls Tryz.prog 20 #[.string s, .int .u8 c.toNat] r fun e w' => ∃ v, e = .returned v ∧ w'.ownsRow 0 9 1 v (piecesB ⟨#[c]⟩ s).length ((piecesB ⟨#[c]⟩ s).map Value.string) ∧ Sat r [row false v (piecesB ⟨#[c]⟩ s).length ((piecesB ⟨#[c]⟩ s).map Value.string) 9 1] w' := by
  have hlen : s.data.toList.length = s.size := len_data s
  refine k_enter (N := 34) Tryz.func20 rfl rfl rfl ?_
  refine walkB ?_
  refine k_nilrow 9 1 ?_
  refine k_loop (σ := Nat × Nat × List ByteArray × Value) (fun t => [(0, .string s), (1, .int .u8 c.toNat), (5, t.2.2.2), (6, .string (s.extract t.1 t.2.1)), (7, .int .i64 t.2.1)]) (fun t => [row false t.2.2.2 t.2.2.1.length (t.2.2.1.map Value.string) 9 1])
    (fun t => t.1 ≤ t.2.1 ∧ t.2.1 ≤ s.size ∧ (∀ j, t.1 ≤ j → j < t.2.1 → byteAt s.data.toList j ≠ c) ∧ t.2.2.1.map (·.data.toList) ++ Lib.split (s.data.toList.drop t.1) [c] = Lib.split s.data.toList [c] ∧ t.2.2.1.length ≤ t.2.1) (fun t => s.size - t.2.1) (0, 0, [], .slice none 0 0) (by dsimp only; rw [extract_nil]; repeat (first | exact Sub.nil | refine Sub.cons rfl ?_)) (by repeat (first | exact SubO.nil | refine SubO.keep ?_ | refine SubO.drop rfl ?_)) ⟨Nat.le_refl _, Nat.zero_le _, fun j _ h => by dsimp only at h; omega, rfl, Nat.le_refl _⟩ ?_
  rintro ⟨a, i, out, v⟩ ⟨ha, hi, hno, hC, hol⟩
  dsimp only at ha hi hno hC hol ⊢
  refine k_rowslice 0 rfl ?_
  rintro ⟨ea, cap, rfl⟩
  by_cases hlt : i < s.size
  · by_cases hc : (byteAt s.data.toList i).toNat = c.toNat
    · have hc' : byteAt s.data.toList i = c := UInt8.toNat_inj.1 hc
      rw [split_at ha (by omega) hno hc'] at hC
      refine walkB ?_
      refine k_app0 (cs := [.string (s.extract a i)]) rfl rfl rfl (fun _ => rfl) rfl rfl rfl rfl rfl rfl rfl (by omega) (by unfold maxLen; omega) ?_
      intro v' u
      refine walkB ?_
      refine k_round (i + 1, i + 1, out ++ [s.extract a i], v') (by dsimp only; rw [extract_nil]; repeat (first | exact Sub.nil | refine Sub.cons rfl ?_)) (by dsimp only; rw [List.map_append, List.length_append]; repeat (first | exact SubO.nil | refine SubO.keep ?_ | refine SubO.drop rfl ?_)) ⟨Nat.le_refl _, by dsimp only; omega, fun j h1 h2 => by dsimp only at h1 h2; omega, ?_, by dsimp only; rw [List.length_append, List.length_singleton]; omega⟩ (by dsimp only; omega)
      dsimp only
      rw [← hC, List.map_append, List.append_assoc]
      congr 1
      rw [List.map_cons, List.map_nil, List.cons_append, List.nil_append, pieceG_data]
    · refine walkB ?_
      refine k_op rfl (fun _ _ => ov_sadd rfl rfl (by rw [ByteArray.size_extract, ByteArray.size_extract]; omega)) ?_
      rw [extract_app s ha (Nat.le_succ i)]
      refine walkB ?_
      refine k_round (a, i + 1, out, .slice ea out.length cap) (by repeat (first | exact Sub.nil | refine Sub.cons rfl ?_)) (by repeat (first | exact SubO.nil | refine SubO.keep ?_ | refine SubO.drop rfl ?_)) ⟨by dsimp only; omega, by dsimp only; omega, fun j h1 h2 => ?_, hC, by dsimp only; omega⟩ (by dsimp only; omega)
      dsimp only at h2
      by_cases hj : j = i
      · subst hj; exact fun e => hc (by rw [e])
      · exact hno j h1 (by omega)
  · have hi' : i = s.data.toList.length := by omega
    have hi2 : i = s.size := by omega
    rw [split_end (by omega) (fun j h1 h2 => hno j h1 (by omega)), ← pieceG_data, ← hi'] at hC
    have hfin : out ++ [s.extract a i] = piecesB ⟨#[c]⟩ s := map_data_inj (by rw [pieces_data, ← hC, List.map_append]; rfl)
    rw [← hfin, List.map_append, List.length_append]
    refine walkB ?_
    refine k_app0 (cs := [.string (s.extract a i)]) rfl rfl rfl (fun _ => rfl) rfl rfl rfl rfl rfl rfl rfl (by omega) (by unfold maxLen; omega) ?_
    intro v' u
    refine walkB ?_
    exact k_ret1 rfl rfl fun w hw => ⟨v', rfl, hw.row 0 rfl, hw⟩
set_option maxHeartbeats 2000000 in
theorem refComp_any (s : ByteArray) (r : World) (hs : s.size ≤ 9223372036854775807) : Calls Tryz.prog 42 #[.string s] r fun e w' => e = .returned (.bool (compB s.data.toList)) ∧ Below r.heap.size r w' := by
  have hlen : s.data.toList.length = s.size := len_data s
  unfold compB
  rw [hlen]
  refine k_enter (N := 59) Tryz.func42 rfl rfl rfl ?_
  by_cases h1 : 1 ≤ s.size
  · rw [decide_eq_true h1]
    by_cases h20 : s.size ≤ 20
    · rw [decide_eq_true h20]
      have h256 := UInt8.toNat_lt (byteAt s.data.toList 0)
      by_cases g1 : 97 ≤ (byteAt s.data.toList 0).toNat
      · by_cases g2 : (byteAt s.data.toList 0).toNat ≤ 122
        · rw [decide_eq_true ⟨g1, g2⟩]
          refine walkB ?_
          refine k_loop (σ := Nat) (fun k => [(0, .string s), (3, .int .i64 k)]) (fun _ => []) (fun k => 1 ≤ k ∧ k ≤ s.size ∧ ∀ j, j < k → permB (byteAt s.data.toList j).toNat = true) (fun k => s.size - k) 1 (by repeat (first | exact Sub.nil | refine Sub.cons rfl ?_)) (by repeat (first | exact SubO.nil | refine SubO.keep ?_ | refine SubO.drop rfl ?_)) ⟨Nat.le_refl _, h1, fun j hj => by rw [show j = 0 by omega, permB_iff]; exact .inl ⟨g1, g2⟩⟩ ?_
          rintro k ⟨hk1, hk, hall⟩
          by_cases hlt : k < s.size
          · have k256 := UInt8.toNat_lt (byteAt s.data.toList k)
            cases hp : permB (byteAt s.data.toList k).toNat with
            | true =>
              have hp' := (permB_iff _).1 hp
              have hnx : ∀ j, j < k + 1 → permB (byteAt s.data.toList j).toNat = true := fun j hj => by
                rcases Nat.lt_succ_iff_lt_or_eq.1 hj with h | h
                · exact hall j h
                · subst h; exact hp
              clear hp
              rcases hp' with h | h | h | h | h
              all_goals
                refine walkB ?_
                refine k_round (k + 1) (by repeat (first | exact Sub.nil | refine Sub.cons rfl ?_)) (by repeat (first | exact SubO.nil | refine SubO.keep ?_ | refine SubO.drop rfl ?_)) ⟨by omega, by omega, hnx⟩ (by omega)
            | false =>
              have hb : ¬ (97 ≤ (byteAt s.data.toList k).toNat ∧ (byteAt s.data.toList k).toNat ≤ 122 ∨ 48 ≤ (byteAt s.data.toList k).toNat ∧ (byteAt s.data.toList k).toNat ≤ 57 ∨ (byteAt s.data.toList k).toNat = 45 ∨ (byteAt s.data.toList k).toNat = 43 ∨ (byteAt s.data.toList k).toNat = 95) := fun h => by rw [(permB_iff _).2 h] at hp; cases hp
              rw [perm_not (by omega) hp]
              clear hp
              by_cases f1 : 97 ≤ (byteAt s.data.toList k).toNat
              · refine walkB ?_
                exact k_ret1 rfl rfl fun w hw => ⟨rfl, hw.below rfl⟩
              · by_cases f2 : 48 ≤ (byteAt s.data.toList k).toNat
                · refine walkB ?_
                  exact k_ret1 rfl rfl fun w hw => ⟨rfl, hw.below rfl⟩
                · refine walkB ?_
                  exact k_ret1 rfl rfl fun w hw => ⟨rfl, hw.below rfl⟩
          · rw [perm_all (fun j hj => hall j (by omega))]
            refine walkB ?_
            exact k_ret1 rfl rfl fun w hw => ⟨rfl, hw.below rfl⟩
        · rw [decide_eq_false (fun h => g2 h.2)]
          refine walkB ?_
          exact k_ret1 rfl rfl fun w hw => ⟨rfl, hw.below rfl⟩
      · rw [decide_eq_false (fun h => g1 h.1)]
        refine walkB ?_
        exact k_ret1 rfl rfl fun w hw => ⟨rfl, hw.below rfl⟩
    · rw [decide_eq_false h20]
      refine walkB ?_
      exact k_ret1 rfl rfl fun w hw => ⟨rfl, hw.below rfl⟩
  · rw [decide_eq_false h1]
    refine walkB ?_
    exact k_ret1 rfl rfl fun w hw => ⟨rfl, hw.below rfl⟩
attribute [local irreducible] compB piecesB
theorem refCheckG_any (s : ByteArray) (r : World) (hs : s.size ≤ 9223372036854775807) : Calls Tryz.prog 16 #[.string s] r fun e w' => e = .returned (.int .i64 (checkG s)) ∧ Below r.heap.size r w' := by
  unfold checkG
  refine k_enter (N := 25) Tryz.func16 rfl rfl rfl ?_
  by_cases h80 : 80 < s.size
  · rw [if_pos h80]
    refine walkB ?_
    exact k_ret1 rfl rfl fun w hw => ⟨rfl, hw.below rfl⟩
  rw [if_neg h80]
  have hpl : (piecesB dotB s).length ≤ 81 := by
    rw [piecesB_len dotB s (Nat.le_refl _)]
    have := Lib.countB_le dotB (Nat.le_refl _) s.size s (Nat.le_refl _)
    omega
  refine walkB ?_
  refine k_callr (by kernel_rfl) rfl rfl (fun w hw => (refParts_any s 46 w (by omega)).mono fun e w' ⟨v, h1, _, h3⟩ => ⟨v, h1, own_up h3, h3.below rfl⟩) ?_
  intro v
  refine k_rowslice 0 rfl ?_
  rintro ⟨ea, cap, rfl⟩
  refine walkB ?_
  refine k_loop (σ := Nat) (fun k => [(3, .slice ea (piecesB dotB s).length cap), (4, .int .i64 k)]) (fun _ => [row false (.slice ea (piecesB dotB s).length cap) (piecesB dotB s).length ((piecesB dotB s).map Value.string) 9 1]) (fun k => k ≤ (piecesB dotB s).length ∧ ((piecesB dotB s).drop k).any (fun p => !compB p.data.toList) = (piecesB dotB s).any (fun p => !compB p.data.toList)) (fun k => (piecesB dotB s).length - k) 0 (by repeat (first | exact Sub.nil | refine Sub.cons rfl ?_)) (by repeat (first | exact SubO.nil | refine SubO.keep ?_ | refine SubO.drop rfl ?_)) ⟨Nat.zero_le _, rfl⟩ ?_
  rintro k ⟨hk, hC⟩
  by_cases hlt : k < (piecesB dotB s).length
  · refine k_rowsomeG 0 (by omega) rfl ?_
    rintro ⟨g, c', hg⟩
    injection hg with hg _ hc; subst hg hc
    have hv : ((piecesB dotB s).map Value.string)[k]? = some (.string (piecesB dotB s)[k]) := by rw [List.getElem?_map, List.getElem?_eq_getElem hlt]; rfl
    have hsz : (piecesB dotB s)[k].size ≤ 9223372036854775807 := by
      have := piece_le s (piecesB dotB s)[k] (List.getElem_mem hlt)
      omega
    rw [List.drop_eq_getElem_cons hlt, List.any_cons] at hC
    generalize (piecesB dotB s)[k] = x at hv hsz hC
    refine walkB ?_
    refine k_op rfl (fun w hw => ov_rowG 0 hw inferInstance rfl rfl hv) ?_
    refine walkB ?_
    refine k_callb (v := .bool (compB x.data.toList)) (by kernel_rfl) rfl rfl (fun w hw => refComp_any x w hsz) ?_
    cases hcx : compB x.data.toList with
    | true =>
      rw [hcx] at hC
      refine walkB ?_
      refine k_round (k + 1) (by repeat (first | exact Sub.nil | refine Sub.cons rfl ?_)) (by repeat (first | exact SubO.nil | refine SubO.keep ?_ | refine SubO.drop rfl ?_)) ⟨by omega, by rw [← hC]; rfl⟩ (by omega)
    | false =>
      rw [hcx] at hC
      rw [← hC]
      refine walkB ?_
      exact k_ret1 rfl rfl fun w hw => ⟨rfl, hw.below rfl⟩
  · rw [List.drop_eq_nil_of_le (by omega), List.any_nil] at hC
    rw [← hC, if_neg (by simp)]
    by_cases h10 : 10 < (piecesB dotB s).length
    · rw [if_pos h10]
      refine walkB ?_
      exact k_ret1 rfl rfl fun w hw => ⟨rfl, hw.below rfl⟩
    · rw [if_neg h10]
      refine walkB ?_
      exact k_ret1 rfl rfl fun w hw => ⟨rfl, hw.below rfl⟩
end Go.Proofs.YtdolgoplflpbgaaGreatDoor
