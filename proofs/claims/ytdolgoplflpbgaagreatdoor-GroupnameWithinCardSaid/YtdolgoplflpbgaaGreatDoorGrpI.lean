/- GroupnameWithin answers true for every three strings. -/
import Derived.Test.YtdolgoplflpbgaaGreatDoorGrpF
namespace Go.Proofs.YtdolgoplflpbgaaGreatDoor
open Go.RowKit Go.Sort

/-! Plain: the common beginning of two lists. -/
def cplL : List ByteArray → List ByteArray → Nat
  | x :: l, y :: m => if x = y then cplL l m + 1 else 0
  | [], _ => 0
  | _ :: _, [] => 0
theorem cpl_le : ∀ l m : List ByteArray, cplL l m ≤ l.length ∧ cplL l m ≤ m.length
  | [], m => ⟨Nat.zero_le _, Nat.zero_le _⟩
  | _ :: _, [] => ⟨Nat.zero_le _, Nat.zero_le _⟩
  | x :: l, y :: m => by
    rw [cplL]
    have := cpl_le l m
    split <;> simp <;> omega
theorem cpl_iff : ∀ (l m : List ByteArray) (i : Nat), i ≤ l.length → (l.take i <+: m ↔ i ≤ cplL l m)
  | l, m, 0, _ => by simp
  | [], m, i + 1, h => by simp at h
  | x :: l, [], i + 1, h => by simp [cplL]
  | x :: l, y :: m, i + 1, h => by
    rw [List.take_succ_cons, List.cons_prefix_cons, cpl_iff l m i (by simpa using h), cplL]
    split
    · rename_i e; simp [e]
    · rename_i e; simp [e]
theorem cpl_at : ∀ (n : Nat) (l m : List ByteArray), n ≤ l.length → n ≤ m.length → l.take n = m.take n → (n = l.length ∨ n = m.length ∨ l[n]? ≠ m[n]?) → cplL l m = n
  | 0, [], m, _, _, _, _ => rfl
  | 0, x :: l, [], _, _, _, _ => rfl
  | 0, x :: l, y :: m, _, _, _, h => by
    rcases h with h | h | h
    · simp at h
    · simp at h
    · rw [cplL, if_neg (fun e => h (by simp [e]))]
  | n + 1, [], m, h, _, _, _ => by simp at h
  | n + 1, x :: l, [], _, h, _, _ => by simp at h
  | n + 1, x :: l, y :: m, h1, h2, ht, h => by
    rw [List.take_succ_cons, List.take_succ_cons] at ht
    injection ht with e ht
    rw [cplL, if_pos e, cpl_at n l m (by simpa using h1) (by simpa using h2) ht (by simpa using h)]
def commonG (a b : ByteArray) : ByteArray × Bool := if checkG a = 0 then (if checkG b = 0 then (joinB dotB ((piecesB dotB a).take (cplL (piecesB dotB a) (piecesB dotB b))), decide (0 < cplL (piecesB dotB a) (piecesB dotB b))) else (⟨#[]⟩, false)) else (⟨#[]⟩, false)
theorem common_ne {a : ByteArray} (ha : checkG a = 0) (n : Nat) : joinB dotB ((piecesB dotB a).take n) = ⟨#[]⟩ ↔ n = 0 := by
  constructor
  · intro h
    rcases Nat.eq_zero_or_pos n with h0 | h0
    · exact h0
    · have h1 := name_pos (name_take ha n h0).1
      rw [h] at h1
      exact absurd h1 (by decide)
  · rintro rfl; rfl
theorem within_self (a : ByteArray) : withinG a a = decide (checkG a = 0) := by
  rw [Bool.eq_iff_iff, withinG_iff, decide_eq_true_iff]
  exact ⟨fun h => h.1, fun h => ⟨h, h, List.prefix_rfl⟩⟩
theorem within_anti {a b : ByteArray} (h1 : withinG a b = true) (h2 : withinG b a = true) : a = b := by
  obtain ⟨_, _, p1⟩ := withinG_iff.1 h1
  obtain ⟨_, _, p2⟩ := withinG_iff.1 h2
  exact pieces_inj (c := 46) (List.IsPrefix.eq_of_length p2 (Nat.le_antisymm p2.length_le p1.length_le))
theorem within_trans {a b c : ByteArray} (h1 : withinG a b = true) (h2 : withinG b c = true) : withinG a c = true := by
  obtain ⟨p1, p2, p3⟩ := withinG_iff.1 h1
  obtain ⟨q1, q2, q3⟩ := withinG_iff.1 h2
  exact withinG_iff.2 ⟨p1, q2, q3.trans p3⟩
theorem within_common {a b c : ByteArray} (h1 : withinG a c = true) (h2 : withinG b c = true) : withinG (commonG a b).1 c = true := by
  obtain ⟨p1, p2, p3⟩ := withinG_iff.1 h1
  obtain ⟨q1, q2, q3⟩ := withinG_iff.1 h2
  unfold commonG
  rw [if_pos p1, if_pos q1]
  have h3 : piecesB dotB c = (piecesB dotB a).take (piecesB dotB c).length := List.prefix_iff_eq_take.1 p3
  have h4 : (piecesB dotB c).length ≤ cplL (piecesB dotB a) (piecesB dotB b) := (cpl_iff _ _ _ p3.length_le).1 (by rw [← h3]; exact q3)
  have h5 : 0 < (piecesB dotB c).length := List.length_pos_iff.2 (pieces_ne 46 c)
  obtain ⟨h6, h7⟩ := name_take p1 (cplL (piecesB dotB a) (piecesB dotB b)) (by omega)
  refine withinG_iff.2 ⟨h6, p2, ?_⟩
  rw [h7, h3]
  exact List.take_prefix_take_left h4
/-- What the law asks of Within and Common. -/
theorem ov_min2 {P : Program} {env : Env} {w : World} {x y : Operand} {ts : Array TypeId} {m n : Nat} (hx : evx env x = some (.int .i64 ((m : Nat) : Int))) (hy : evx env y = some (.int .i64 ((n : Nat) : Int))) : OV P env (.call { callee := .builtin .min, args := #[x, y], argTypes := ts }) w (.int .i64 ((min m n : Nat) : Int)) := by
  have := ov_min (P := P) (w := w) (ts := ts) hx hy
  have e : (if (n : Int) < m then (n : Int) else m) = ((min m n : Nat) : Int) := by split <;> omega
  rw [e] at this; exact this
set_option maxRecDepth 100000
attribute [local irreducible] K KS KLeft KRound J OV EV EU Blk wpList Code.wp bodyPost Exit.then Exit.inBlock Round Left Hid JS wpStill wpHeld Calls
attribute [local irreducible] joinB checkG compB piecesB listErr cplL
theorem common_any (a b : ByteArray) (m : Int) (r : World) (ha : a.size ≤ 9223372036854775807) (hb : b.size ≤ 9223372036854775807) (hm : r.cell? ⟨0, 0, none⟩ = some (.int .i64 m)) :
    Calls Tryz.prog 27 #[.string a, .string b] r fun e w' => e = .returned (.tuple #[.string (commonG a b).1, .bool (commonG a b).2]) ∧ Below r.heap.size r w' := by
  refine k_enter (N := 53) Tryz.func27 rfl rfl rfl ?_
  unfold commonG
  refine walkB ?_
  refine k_callS (ok := fun _ => True) (own := fun v => [row false v (partsOk a).length ((partsOk a).map Value.string) 9 1]) (val := fun v => .tuple #[v, .int .i64 (checkG a : Nat)]) (fun _ => rfl) (by kernel_rfl) rfl rfl (fun w hw => splitN_any a m w ha (cell_ext (hw.below rfl) hm)) ?_
  intro v1 _
  refine walkB ?_
  refine k_callS (ok := fun _ => True) (own := fun v => [row false v (partsOk b).length ((partsOk b).map Value.string) 9 1]) (val := fun v => .tuple #[v, .int .i64 (checkG b : Nat)]) (fun _ => rfl) (by kernel_rfl) rfl rfl (fun w hw => splitN_any b m w hb (cell_ext (hw.below rfl) hm)) ?_
  intro v2 _
  by_cases h1 : checkG a = 0
  · by_cases h2 : checkG b = 0
    · rw [if_pos h1, if_pos h2, h1, h2]
      have e1 : partsOk a = piecesB dotB a := by unfold partsOk; rw [if_pos h1]
      have e2 : partsOk b = piecesB dotB b := by unfold partsOk; rw [if_pos h2]
      rw [e1, e2]
      have hl1 := (checkG_iff.1 h1).2.2
      have hl2 := (checkG_iff.1 h2).2.2
      have hjs : ∀ n, (joinB dotB ((piecesB dotB a).take n)).size ≤ 80 := fun n => by
        have h3 := joinB_take_le dotB (piecesB dotB a) n
        have h4 : joinB dotB (piecesB dotB a) = a := joinB_pieces 46 a
        have h5 := checkG_size h1
        rw [h4] at h3
        omega
      have hat := fun n => cpl_at n (piecesB dotB a) (piecesB dotB b)
      have hne1 : 0 < (piecesB dotB a).length := List.length_pos_iff.2 (pieces_ne 46 a)
      have hne2 : 0 < (piecesB dotB b).length := List.length_pos_iff.2 (pieces_ne 46 b)
      generalize piecesB dotB a = x at hl1 hjs hat hne1
      generalize piecesB dotB b = y at hl2 hat hne2
      refine k_rowsomeG 1 hne1 rfl ?_
      rintro ⟨g1, c1, rfl⟩
      refine k_rowsomeG 0 hne2 rfl ?_
      rintro ⟨g2, c2, rfl⟩
      refine k_rowsliceC 1 rfl ?_
      intro ea cap he hcap _
      injection he with e3 e4 e5
      subst e3 e5
      refine walkB ?_
      apply k_join (σ := Nat) (fun n => [(6, .slice (some ⟨g1, 0, none⟩) x.length c1), (10, .int .i64 n), (47, .slice (some ⟨g1, 0, none⟩) x.length c1), (48, .int .i64 n)]) (fun _ => [row false (.slice (some ⟨g2, 0, none⟩) y.length c2) y.length (y.map Value.string) 9 1, row false (.slice (some ⟨g1, 0, none⟩) x.length c1) x.length (x.map Value.string) 9 1]) (fun n => n ≤ x.length ∧ cplL x y = n)
      · intro key
        refine k_loop (σ := Nat) (fun n => [(6, .slice (some ⟨g1, 0, none⟩) x.length c1), (8, .slice (some ⟨g2, 0, none⟩) y.length c2), (10, .int .i64 n)]) (fun _ => [row false (.slice (some ⟨g2, 0, none⟩) y.length c2) y.length (y.map Value.string) 9 1, row false (.slice (some ⟨g1, 0, none⟩) x.length c1) x.length (x.map Value.string) 9 1]) (fun n => n ≤ x.length ∧ n ≤ y.length ∧ x.take n = y.take n) (fun n => x.length - n) 0 (by repeat (first | exact Sub.nil | refine Sub.cons rfl ?_)) (by repeat (first | exact SubO.nil | refine SubO.keep ?_ | refine SubO.drop rfl ?_)) ⟨Nat.zero_le _, Nat.zero_le _, rfl⟩ ?_
        rintro n ⟨hn1, hn2, hT⟩
        by_cases hlt : n < x.length ∧ n < y.length
        · have hv1 : (x.map Value.string)[n]? = some (.string x[n]) := by rw [List.getElem?_map, List.getElem?_eq_getElem hlt.1]; rfl
          have hv2 : (y.map Value.string)[n]? = some (.string y[n]) := by rw [List.getElem?_map, List.getElem?_eq_getElem hlt.2]; rfl
          have hne : x[n] ≠ y[n] → x[n]? ≠ y[n]? := fun h => by rw [List.getElem?_eq_getElem hlt.1, List.getElem?_eq_getElem hlt.2]; simpa using h
          have hT2 : x[n] = y[n] → x.take (n + 1) = y.take (n + 1) := fun h => by rw [List.take_succ_eq_append_getElem hlt.1, List.take_succ_eq_append_getElem hlt.2, hT, h]
          generalize x[n] = p at hv1 hne hT2
          generalize y[n] = q at hv2 hne hT2
          refine walkB ?_
          refine k_region_still (by kernel_rfl) (by kernel_rfl) ?_
          refine vwalkB ?_
          refine ks_op rfl (fun _ _ => ov_min2 rfl rfl) ?_
          refine vwalkB ?_
          refine ks_yes rfl rfl rfl rfl (fun w hw => ov_rowG 1 hw inferInstance rfl rfl hv1) ?_
          refine vwalkB ?_
          refine ks_yes rfl rfl rfl rfl (fun w hw => ov_rowG 0 hw inferInstance rfl rfl hv2) ?_
          refine vwalkB ?_
          refine walkB ?_
          refine k_condd rfl (fun hpq => ?_) (fun hpq => ?_)
          · refine walkB ?_
            exact k_round (n + 1) (by repeat (first | exact Sub.nil | refine Sub.cons rfl ?_)) (by repeat (first | exact SubO.nil | refine SubO.keep ?_ | refine SubO.drop rfl ?_)) ⟨by omega, by omega, hT2 hpq⟩ (by omega)
          · refine walkB ?_
            exact key _ _ n (by repeat (first | exact Sub.nil | refine Sub.cons rfl ?_)) (by repeat (first | exact SubO.nil | refine SubO.keep ?_ | refine SubO.drop rfl ?_)) ⟨hn1, hat n hn1 hn2 hT (.inr (.inr (hne hpq)))⟩
        · have hor : n = x.length ∨ n = y.length := by omega
          refine walkB ?_
          refine k_region_still (by kernel_rfl) (by kernel_rfl) ?_
          refine vwalkB ?_
          refine ks_op rfl (fun _ _ => ov_min2 rfl rfl) ?_
          refine vwalkB ?_
          refine walkB ?_
          exact key _ _ n (by repeat (first | exact Sub.nil | refine Sub.cons rfl ?_)) (by repeat (first | exact SubO.nil | refine SubO.keep ?_ | refine SubO.drop rfl ?_)) ⟨hn1, hat n hn1 hn2 hT (hor.elim .inl (fun h => .inr (.inl h)))⟩
      rintro n ⟨hn, hcp⟩
      have hjn := hjs n
      rw [hcp]
      refine k_op rfl (fun _ _ => ov_sliceto rfl rfl n rfl (by omega)) ?_
      refine walkB ?_
      refine k_callb (by kernel_rfl) rfl rfl (fun w hw => joinS_any _ (x.take n) dotB w (strs_take (strs_of_row (hw.row 1 rfl)) n hn) (by rw [List.length_take]; omega) (by omega)) ?_
      by_cases h0 : 0 < n
      · rw [decide_eq_true h0]
        refine walkB ?_
        exact k_ret2 rfl rfl rfl fun w hw => ⟨rfl, hw.below rfl⟩
      · rw [decide_eq_false h0]
        refine walkB ?_
        exact k_ret2 rfl rfl rfl fun w hw => ⟨rfl, hw.below rfl⟩
    · rw [if_pos h1, if_neg h2, h1]
      refine walkB ?_
      exact k_ret2 rfl rfl rfl fun w hw => ⟨rfl, hw.below rfl⟩
  · rw [if_neg h1]
    refine walkB ?_
    exact k_ret2 rfl rfl rfl fun w hw => ⟨rfl, hw.below rfl⟩
theorem refCommon_any (a b : ByteArray) (r : World) (ha : checkG a = 0) (hb : checkG b = 0) :
    Calls Tryz.prog 28 #[.string a, .string b] r fun e w' => e = .returned (.string (commonG a b).1) ∧ Below r.heap.size r w' := by
  have e : (commonG a b).1 = joinB dotB ((piecesB dotB a).take (cplL (piecesB dotB a) (piecesB dotB b))) := by unfold commonG; rw [if_pos ha, if_pos hb]
  rw [e]
  have hla := checkG_size ha
  have hlb := checkG_size hb
  have hl1 := (checkG_iff.1 ha).2.2
  have hcl := cpl_le (piecesB dotB a) (piecesB dotB b)
  have hjs : ∀ n, (joinB dotB ((piecesB dotB a).take n)).size ≤ 80 := fun n => by
    have h3 := joinB_take_le dotB (piecesB dotB a) n
    have h4 : joinB dotB (piecesB dotB a) = a := joinB_pieces 46 a
    rw [h4] at h3
    omega
  have hwa : ∀ i, 1 ≤ i → withinG a (joinB dotB ((piecesB dotB a).take i)) = true := fun i hi => by
    obtain ⟨h6, h7⟩ := name_take ha i hi
    exact withinG_iff.2 ⟨ha, h6, by rw [h7]; exact List.take_prefix _ _⟩
  have hwb : ∀ i, 1 ≤ i → i ≤ (piecesB dotB a).length → withinG b (joinB dotB ((piecesB dotB a).take i)) = decide (i ≤ cplL (piecesB dotB a) (piecesB dotB b)) := fun i hi hi2 => by
    obtain ⟨h6, h7⟩ := name_take ha i hi
    rw [Bool.eq_iff_iff, withinG_iff, h7, decide_eq_true_iff, cpl_iff _ _ _ hi2]
    exact ⟨fun h => h.2.2, fun h => ⟨hb, h6, h⟩⟩
  refine k_enter (N := 31) Tryz.func28 rfl rfl rfl ?_
  refine walkB ?_
  refine k_callr (by kernel_rfl) rfl rfl (fun w hw => (refParts_any a 46 w (by omega)).mono fun e w' ⟨v, h1, _, h3⟩ => ⟨v, h1, own_up h3, h3.below rfl⟩) ?_
  intro v
  rw [show (⟨#[46]⟩ : ByteArray) = dotB from rfl]
  generalize cplL (piecesB dotB a) (piecesB dotB b) = c at hcl hwb
  generalize piecesB dotB a = x at hl1 hcl hjs hwa hwb
  refine k_rowsliceC 0 rfl ?_
  rintro ea cap rfl hcap -
  refine walkB ?_
  refine k_loop (σ := Nat) (fun n => [(0, .string a), (1, .string b), (5, .string (joinB dotB (x.take (min n c)))), (6, .slice ea x.length cap), (7, .int .i64 (n + 1 : Nat))]) (fun _ => [row false (.slice ea x.length cap) x.length (x.map Value.string) 9 1]) (fun n => n ≤ x.length) (fun n => x.length - n) 0 (by rw [Nat.zero_min, List.take_zero, joinB_nil]; exact (by repeat (first | exact Sub.nil | refine Sub.cons rfl ?_))) (by repeat (first | exact SubO.nil | refine SubO.keep ?_ | refine SubO.drop rfl ?_)) (Nat.zero_le _) ?_
  rintro n hn
  by_cases hlt : n < x.length
  · have hw1 := hwa (n + 1) (by omega)
    have hw2 := hwb (n + 1) (by omega) (by omega)
    have hjn := hjs (n + 1)
    refine walkB ?_
    refine k_op rfl (fun _ _ => ov_sliceto rfl rfl (n + 1) rfl (by omega)) ?_
    refine walkB ?_
    refine k_callb (by kernel_rfl) rfl rfl (fun w hw => refText_any _ (x.take (n + 1)) dotB w (strs_take (strs_of_row (hw.row 0 rfl)) (n + 1) hlt) (by rw [List.length_take]; omega) (by omega)) ?_
    refine walkB ?_
    refine k_callb (v := .bool true) (by kernel_rfl) rfl rfl (fun w hw => by rw [← hw1]; exact refWithin_any a _ w (by omega) (by omega)) ?_
    refine walkB ?_
    refine k_callb (by kernel_rfl) rfl rfl (fun w hw => refWithin_any b _ w (by omega) (by omega)) ?_
    rw [hw2]
    by_cases hc : n + 1 ≤ c
    · rw [decide_eq_true hc]
      have em : min (n + 1) c = n + 1 := by omega
      refine walkB ?_
      exact k_round (n + 1) (by rw [em]; exact (by repeat (first | exact Sub.nil | refine Sub.cons rfl ?_))) (by repeat (first | exact SubO.nil | refine SubO.keep ?_ | refine SubO.drop rfl ?_)) (by omega) (by omega)
    · rw [decide_eq_false hc]
      have em : min (n + 1) c = min n c := by omega
      refine walkB ?_
      exact k_round (n + 1) (by rw [em]; exact (by repeat (first | exact Sub.nil | refine Sub.cons rfl ?_))) (by repeat (first | exact SubO.nil | refine SubO.keep ?_ | refine SubO.drop rfl ?_)) (by omega) (by omega)
  · have em : min n c = c := by omega
    rw [em]
    refine walkB ?_
    exact k_ret1 rfl rfl fun w hw => ⟨rfl, hw.below rfl⟩
theorem lawWithin_any (a b c : ByteArray) (m : Int) (r : World) (hm : r.cell? ⟨0, 0, none⟩ = some (.int .i64 m)) : Calls Tryz.prog 6 #[.string a, .string b, .string c] r fun e w' => e = .returned (.bool true) ∧ Below r.heap.size r w' := by
  refine k_enter (N := 110) Tryz.func6 rfl rfl rfl ?_
  refine walkB ?_
  refine k_callb (by kernel_rfl) rfl rfl (fun w hw => known_any m w (cell_ext (hw.below rfl) hm)) ?_
  refine walkB ?_
  refine k_lit (vs := [.string a, .string b, .string c]) rfl rfl rfl rfl rfl rfl rfl ?_
  intro b0
  refine walkB ?_
  refine k_callb (v := .bool (decide (a.size ≤ 120) && (decide (b.size ≤ 120) && decide (c.size ≤ 120)))) (by kernel_rfl) rfl rfl (fun w hw => (short_any _ [a, b, c] w (by exact strs_of_blkG (hw.blk 0 rfl) rfl) (by show 3 ≤ _; decide)).mono fun e w' h => ⟨by rw [h.1]; simp, h.2⟩) ?_
  cases hs : decide (a.size ≤ 120) && (decide (b.size ≤ 120) && decide (c.size ≤ 120)) with
  | false =>
    refine walkB ?_
    refine k_callb (by kernel_rfl) rfl rfl (fun w hw => known_any m w (cell_ext (hw.below rfl) hm)) ?_
    refine walkB ?_
    exact k_ret1 rfl rfl fun w hw => ⟨rfl, hw.below rfl⟩
  | true =>
    simp only [Bool.and_eq_true, decide_eq_true_eq] at hs
    obtain ⟨ha, hb, hc⟩ := hs
    have ceA := checkG_small a
    have ceB := checkG_small b
    have hself := within_self a
    have hanti := within_anti (a := a) (b := b)
    have htr := within_trans (a := a) (b := b) (c := c)
    have hco := within_common (a := a) (b := b) (c := c)
    have hcs : (commonG a b).1.size ≤ 80 := by
      unfold commonG
      split
      · split
        · rename_i h1 _
          have h3 := joinB_take_le dotB (piecesB dotB a) (cplL (piecesB dotB a) (piecesB dotB b))
          have h4 : joinB dotB (piecesB dotB a) = a := joinB_pieces 46 a
          have h5 := checkG_size h1
          rw [h4] at h3
          exact Nat.le_trans h3 h5
        · exact Nat.zero_le _
      · exact Nat.zero_le _
    refine walkB ?_
    refine k_callb (by kernel_rfl) rfl rfl (fun w hw => within_any a b m w (by omega) (by omega) (cell_ext (hw.below rfl) hm)) ?_
    refine walkB ?_
    refine k_callb (by kernel_rfl) rfl rfl (fun w hw => refWithin_any a b w (by omega) (by omega)) ?_
    refine k_op rfl (fun _ _ => ov_bneq rfl rfl (by kernel_rfl)) ?_
    rw [show (!(withinG a b == withinG a b)) = false by simp]
    apply k_join (σ := Unit) (fun _ => [(0, .string a), (1, .string b), (2, .string c), (36, .string a), (37, .string b)]) (fun _ => []) (fun _ => True)
    · intro key
      by_cases hA : checkG a = 0
      · rw [decide_eq_true hA] at hself
        refine walkB ?_
        refine k_callb (by kernel_rfl) rfl rfl (fun w hw => within_any _ _ m w (by omega) (by omega) (cell_ext (hw.below rfl) hm)) ?_
        rw [hself]
        refine walkB ?_
        refine k_callb (v := .int .i64 0) (by kernel_rfl) rfl rfl (fun w hw => by have := refCheckG_any a w (by omega); rw [hA] at this; exact this) ?_
        refine walkB ?_
        refine k_op rfl (fun _ _ => ov_bneq rfl rfl (by kernel_rfl)) ?_
        refine walkB ?_
        exact key _ _ () (by repeat (first | exact Sub.nil | refine Sub.cons rfl ?_)) (by repeat (first | exact SubO.nil | refine SubO.keep ?_ | refine SubO.drop rfl ?_)) trivial
      · rw [decide_eq_false hA] at hself
        refine walkB ?_
        refine k_callb (by kernel_rfl) rfl rfl (fun w hw => within_any _ _ m w (by omega) (by omega) (cell_ext (hw.below rfl) hm)) ?_
        rw [hself]
        refine walkB ?_
        refine k_callb (v := .int .i64 (checkG a)) (by kernel_rfl) rfl rfl (fun w hw => refCheckG_any a w (by omega)) ?_
        refine walkB ?_
        refine k_op rfl (fun _ _ => ov_bneq rfl rfl (by kernel_rfl)) ?_
        refine walkB ?_
        exact key _ _ () (by repeat (first | exact Sub.nil | refine Sub.cons rfl ?_)) (by repeat (first | exact SubO.nil | refine SubO.keep ?_ | refine SubO.drop rfl ?_)) trivial
    rintro ⟨⟩ -
    apply k_join (σ := Unit) (fun _ => [(0, .string a), (1, .string b), (2, .string c), (66, .string a), (67, .string b)]) (fun _ => []) (fun _ => True)
    · intro key
      refine k_callb (by kernel_rfl) rfl rfl (fun w hw => within_any _ _ m w (by omega) (by omega) (cell_ext (hw.below rfl) hm)) ?_
      cases hab : withinG a b with
      | false =>
        refine walkB ?_
        refine k_callb (by kernel_rfl) rfl rfl (fun w hw => within_any _ _ m w (by omega) (by omega) (cell_ext (hw.below rfl) hm)) ?_
        rw [hab]
        refine walkB ?_
        exact key _ _ () (by repeat (first | exact Sub.nil | refine Sub.cons rfl ?_)) (by repeat (first | exact SubO.nil | refine SubO.keep ?_ | refine SubO.drop rfl ?_)) trivial
      | true =>
        have htr2 := htr hab
        refine walkB ?_
        refine k_callb (by kernel_rfl) rfl rfl (fun w hw => within_any _ _ m w (by omega) (by omega) (cell_ext (hw.below rfl) hm)) ?_
        apply k_join (σ := Unit) (fun _ => [(0, .string a), (1, .string b), (2, .string c), (49, .bool false), (50, .string a), (51, .string b)]) (fun _ => []) (fun _ => True)
        · intro key2
          cases hba : withinG b a with
          | false =>
            refine walkB ?_
            exact key2 _ _ () (by repeat (first | exact Sub.nil | refine Sub.cons rfl ?_)) (by repeat (first | exact SubO.nil | refine SubO.keep ?_ | refine SubO.drop rfl ?_)) trivial
          | true =>
            have e := hanti hab hba
            refine walkB ?_
            exact key2 _ _ () (by repeat (first | exact Sub.nil | refine Sub.cons rfl ?_)) (by repeat (first | exact SubO.nil | refine SubO.keep ?_ | refine SubO.drop rfl ?_)) trivial
        rintro ⟨⟩ -
        refine k_callb (by kernel_rfl) rfl rfl (fun w hw => within_any _ _ m w (by omega) (by omega) (cell_ext (hw.below rfl) hm)) ?_
        rw [hab]
        refine walkB ?_
        refine k_callb (by kernel_rfl) rfl rfl (fun w hw => within_any _ _ m w (by omega) (by omega) (cell_ext (hw.below rfl) hm)) ?_
        cases hbc : withinG b c with
        | false =>
          refine walkB ?_
          exact key _ _ () (by repeat (first | exact Sub.nil | refine Sub.cons rfl ?_)) (by repeat (first | exact SubO.nil | refine SubO.keep ?_ | refine SubO.drop rfl ?_)) trivial
        | true =>
          have hac := htr2 hbc
          refine walkB ?_
          refine k_callb (by kernel_rfl) rfl rfl (fun w hw => within_any _ _ m w (by omega) (by omega) (cell_ext (hw.below rfl) hm)) ?_
          rw [hac]
          refine walkB ?_
          exact key _ _ () (by repeat (first | exact Sub.nil | refine Sub.cons rfl ?_)) (by repeat (first | exact SubO.nil | refine SubO.keep ?_ | refine SubO.drop rfl ?_)) trivial
    rintro ⟨⟩ -
    have hcv : checkG a = 0 → checkG b = 0 → (commonG a b).2 = !decide ((commonG a b).1 = ⟨#[]⟩) := fun h1 h2 => by
      have h3 := common_ne h1 (cplL (piecesB dotB a) (piecesB dotB b))
      unfold commonG
      rw [if_pos h1, if_pos h2]
      dsimp only
      rw [Bool.eq_iff_iff, decide_eq_true_iff, Bool.not_eq_true', decide_eq_false_iff_not, h3]
      omega
    have hcn : ¬ (checkG a = 0 ∧ checkG b = 0) → commonG a b = (⟨#[]⟩, false) := fun h => by
      unfold commonG
      by_cases h1 : checkG a = 0
      · rw [if_pos h1, if_neg (fun h2 => h ⟨h1, h2⟩)]
      · rw [if_neg h1]
    refine k_callb (by kernel_rfl) rfl rfl (fun w hw => common_any a b m w (by omega) (by omega) (cell_ext (hw.below rfl) hm)) ?_
    refine walkB ?_
    by_cases hA : checkG a = 0
    · by_cases hB : checkG b = 0
      · have hcv2 := hcv hA hB
        refine k_callb (v := .int .i64 0) (by kernel_rfl) rfl rfl (fun w hw => by have := refCheckG_any a w (by omega); rw [hA] at this; exact this) ?_
        refine walkB ?_
        refine k_callb (v := .int .i64 0) (by kernel_rfl) rfl rfl (fun w hw => by have := refCheckG_any b w (by omega); rw [hB] at this; exact this) ?_
        refine walkB ?_
        refine k_callb (by kernel_rfl) rfl rfl (fun w hw => refCommon_any a b w hA hB) ?_
        generalize (commonG a b).1 = h at hcs hco hcv2
        generalize (commonG a b).2 = is at hcv2
        subst hcv2
        apply k_join (σ := Unit) (fun _ => [(0, .string a), (1, .string b), (2, .string c), (7, .string h), (96, .string a), (97, .string c)]) (fun _ => []) (fun _ => True)
        · intro key
          refine k_op rfl (fun _ _ => oc_sneq rfl rfl (decide_eq_true rfl)) ?_
          refine walkB ?_
          refine k_op rfl (fun _ _ => ov_bneq rfl rfl (by kernel_rfl)) ?_
          rw [show ∀ x : Bool, (!(x == x)) = false from by decide]
          refine walkB ?_
          exact key _ _ () (by repeat (first | exact Sub.nil | refine Sub.cons rfl ?_)) (by repeat (first | exact SubO.nil | refine SubO.keep ?_ | refine SubO.drop rfl ?_)) trivial
        rintro ⟨⟩ -
        refine k_callb (by kernel_rfl) rfl rfl (fun w hw => within_any _ _ m w (by omega) (by omega) (cell_ext (hw.below rfl) hm)) ?_
        cases hac : withinG a c with
        | false =>
          refine walkB ?_
          exact k_ret1 rfl rfl fun w hw => ⟨rfl, hw.below rfl⟩
        | true =>
          refine walkB ?_
          refine k_callb (by kernel_rfl) rfl rfl (fun w hw => within_any _ _ m w (by omega) (by omega) (cell_ext (hw.below rfl) hm)) ?_
          cases hbc : withinG b c with
          | false =>
            refine walkB ?_
            exact k_ret1 rfl rfl fun w hw => ⟨rfl, hw.below rfl⟩
          | true =>
            have hhc := hco hac hbc
            refine walkB ?_
            refine k_callb (by kernel_rfl) rfl rfl (fun w hw => within_any _ _ m w (by omega) (by omega) (cell_ext (hw.below rfl) hm)) ?_
            rw [hhc]
            refine walkB ?_
            exact k_ret1 rfl rfl fun w hw => ⟨rfl, hw.below rfl⟩
      · have hcv2 := hcn (fun h => hB h.2)
        refine k_callb (v := .int .i64 0) (by kernel_rfl) rfl rfl (fun w hw => by have := refCheckG_any a w (by omega); rw [hA] at this; exact this) ?_
        refine walkB ?_
        refine k_callb (v := .int .i64 (checkG b)) (by kernel_rfl) rfl rfl (fun w hw => refCheckG_any b w (by omega)) ?_
        rw [hcv2]
        refine walkB ?_
        exact k_ret1 rfl rfl fun w hw => ⟨rfl, hw.below rfl⟩
    · have hcv2 := hcn (fun h => hA h.1)
      refine k_callb (v := .int .i64 (checkG a)) (by kernel_rfl) rfl rfl (fun w hw => refCheckG_any a w (by omega)) ?_
      rw [hcv2]
      refine walkB ?_
      exact k_ret1 rfl rfl fun w hw => ⟨rfl, hw.below rfl⟩
end Go.Proofs.YtdolgoplflpbgaaGreatDoor
