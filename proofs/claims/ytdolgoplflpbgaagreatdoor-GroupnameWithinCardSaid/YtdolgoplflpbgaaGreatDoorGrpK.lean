/- The small functions of the law. -/
import Derived.Test.YtdolgoplflpbgaaGreatDoorGrpC
namespace Go.Proofs.YtdolgoplflpbgaaGreatDoor
open Go.RowKit Go.Sort

theorem strs_of_sat {r w : World} {v : Value} {l : List ByteArray} (h : Sat r [row false v l.length (l.map Value.string) 9 1] w) : StrsAt w v l ∧ Below r.heap.size r w := ⟨strs_of_row (own_up h), h.below rfl⟩
theorem sat_of_blk {w w' : World} {b : Nat} {l : List ByteArray} (h : Blk w' b (l.map Value.string) 9) (hb : w.heap.size ≤ b) (hx : Below w.heap.size w w') (hn : l.length ≤ maxLen) : Sat w [row false (.slice (some ⟨b, 0, none⟩) l.length l.length) l.length (l.map Value.string) 9 1] w' := by
  refine (Sat.refl w).add hx ⟨by simp, .inr ⟨b, l.length, _, rfl, Nat.zero_le _, h, Nat.le_refl _, hn, by simp, by simp [List.take_of_length_le]⟩⟩ (fun k hk => ?_) rfl
  have : b = k := by injection (hk : some b = some k)
  subst this
  exact ⟨hb, h.lt⟩
set_option maxRecDepth 100000
attribute [local irreducible] K KS KLeft KRound J OV EV EU Blk wpList Code.wp bodyPost Exit.then Exit.inBlock Round Left Hid JS wpStill wpHeld Calls
theorem same_any (v1 v2 : Value) (l m : List ByteArray) (r : World) (h1 : StrsAt r v1 l) (h2 : StrsAt r v2 m) (hn : l.length ≤ 9223372036854775807) (hn2 : m.length ≤ 9223372036854775807) : Calls Tryz.prog 22 #[v1, v2] r fun e w' => e = .returned (.bool (decide (l = m))) ∧ Below r.heap.size r w' := by
  obtain ⟨ea, ca, rfl, _, hca⟩ := h1
  obtain ⟨eb, cb, rfl, _, hcb⟩ := h2
  refine k_enter (N := 26) Tryz.func22 rfl rfl rfl ?_
  by_cases hlen : l.length = m.length
  · refine walkB ?_
    refine k_loop (σ := Nat) (fun k => [(0, .slice ea l.length ca), (1, .slice eb m.length cb), (5, .int .i64 k)]) (fun _ => []) (fun k => k ≤ l.length ∧ l.take k = m.take k) (fun k => l.length - k) 0 (by repeat (first | exact Sub.nil | refine Sub.cons rfl ?_)) (by repeat (first | exact SubO.nil | refine SubO.keep ?_ | refine SubO.drop rfl ?_)) ⟨Nat.zero_le _, by simp⟩ ?_
    rintro k ⟨hk, hT⟩
    by_cases hlt : k < l.length
    · have hlt2 : k < m.length := by omega
      obtain ⟨b, o, rfl, hcell⟩ := hca k l[k] (by simp [hlt])
      obtain ⟨b2, o2, rfl, hcell2⟩ := hcb k m[k] (by simp [hlt2])
      have hT2 : l.take (k + 1) = m.take (k + 1) ↔ l[k] = m[k] := by
        rw [List.take_succ_eq_append_getElem hlt, List.take_succ_eq_append_getElem hlt2, hT]
        exact ⟨fun h => by injection List.append_cancel_left h, fun h => by rw [h]⟩
      have hne : l[k] ≠ m[k] → l ≠ m := fun h e => h (by subst e; rfl)
      generalize l[k] = x at hcell hT2 hne
      generalize m[k] = y at hcell2 hT2 hne
      refine walkB ?_
      refine k_region_still (by kernel_rfl) (by kernel_rfl) ?_
      refine vwalkB ?_
      refine walkB ?_
      refine k_condn rfl (fun hxy => ?_) (fun hxy => ?_)
      · refine walkB ?_
        exact k_ret1 rfl rfl fun w hw => ⟨by rw [decide_eq_false (hne hxy)], hw.below rfl⟩
      · refine walkB ?_
        refine k_round (k + 1) (by repeat (first | exact Sub.nil | refine Sub.cons rfl ?_)) (by repeat (first | exact SubO.nil | refine SubO.keep ?_ | refine SubO.drop rfl ?_)) ⟨by omega, hT2.2 hxy⟩ (by omega)
    · have hkl : k = l.length := by omega
      subst hkl
      rw [List.take_length, hlen, List.take_length] at hT
      refine walkB ?_
      exact k_ret1 rfl rfl fun w hw => ⟨by rw [decide_eq_true hT], hw.below rfl⟩
  · refine walkB ?_
    exact k_ret1 rfl rfl fun w hw => ⟨by rw [decide_eq_false (fun e => hlen (by rw [e]))], hw.below rfl⟩
theorem short_any (v : Value) (l : List ByteArray) (r : World) (h1 : StrsAt r v l) (hn : l.length ≤ 9223372036854775807) : Calls Tryz.prog 10 #[v] r fun e w' => e = .returned (.bool (decide (l.length ≤ 60) && l.all fun s => decide (s.size ≤ 120))) ∧ Below r.heap.size r w' := by
  obtain ⟨ea, ca, rfl, _, hca⟩ := h1
  refine k_enter (N := 19) Tryz.func10 rfl rfl rfl ?_
  by_cases h60 : 60 < l.length
  · rw [decide_eq_false (by omega)]
    refine walkB ?_
    exact k_ret1 rfl rfl fun w hw => ⟨rfl, hw.below rfl⟩
  rw [decide_eq_true (by omega)]
  refine walkB ?_
  refine k_loop (σ := Nat) (fun k => [(0, .slice ea l.length ca), (3, .int .i64 k)]) (fun _ => []) (fun k => k ≤ l.length ∧ (l.drop k).all (fun s => decide (s.size ≤ 120)) = l.all (fun s => decide (s.size ≤ 120))) (fun k => l.length - k) 0 (by repeat (first | exact Sub.nil | refine Sub.cons rfl ?_)) (by repeat (first | exact SubO.nil | refine SubO.keep ?_ | refine SubO.drop rfl ?_)) ⟨Nat.zero_le _, rfl⟩ ?_
  rintro k ⟨hk, hC⟩
  by_cases hlt : k < l.length
  · obtain ⟨b, o, rfl, hcell⟩ := hca k l[k] (by simp [hlt])
    rw [List.drop_eq_getElem_cons hlt, List.all_cons] at hC
    generalize l[k] = x at hcell hC
    refine walkB ?_
    by_cases hx : x.size ≤ 120
    · rw [decide_eq_true hx, Bool.true_and] at hC
      refine k_condd rfl (fun h => ?_) (fun _ => ?_)
      · omega
      refine walkB ?_
      refine k_round (k + 1) (by repeat (first | exact Sub.nil | refine Sub.cons rfl ?_)) (by repeat (first | exact SubO.nil | refine SubO.keep ?_ | refine SubO.drop rfl ?_)) ⟨by omega, hC⟩ (by omega)
    · rw [decide_eq_false hx, Bool.false_and] at hC
      refine k_condd rfl (fun _ => ?_) (fun h => ?_)
      · refine walkB ?_
        exact k_ret1 rfl rfl fun w hw => ⟨by rw [← hC]; rfl, hw.below rfl⟩
      · omega
  · have hkl : k = l.length := by omega
    subst hkl
    rw [List.drop_length] at hC
    refine walkB ?_
    exact k_ret1 rfl rfl fun w hw => ⟨by rw [← hC]; rfl, hw.below rfl⟩
def partsOk (s : ByteArray) : List ByteArray := if checkG s = 0 then piecesB dotB s else []
theorem splitN_any (s : ByteArray) (m : Int) (r : World) (hs : s.size ≤ 9223372036854775807) (hm : r.cell? ⟨0, 0, none⟩ = some (.int .i64 m)) :
    Calls Tryz.prog 17 #[.string s] r fun e w' => ∃ v, e = .returned (.tuple #[v, .int .i64 (checkG s : Nat)]) ∧ True ∧ Sat r [row false v (partsOk s).length ((partsOk s).map Value.string) 9 1] w' := by
  refine k_enter (N := 12) Tryz.func17 rfl rfl rfl ?_
  refine walkB ?_
  refine k_callb (v := .int .i64 (checkG s)) (by kernel_rfl) rfl rfl (fun w hw => checkG_any s m w hs (cell_ext (hw.below rfl) hm)) ?_
  unfold partsOk
  by_cases hc : checkG s = 0
  · rw [if_pos hc, hc]
    have h80 := checkG_size hc
    have hpl : (piecesB dotB s).length ≤ 81 := by
      rw [piecesB_len dotB s (Nat.le_refl _)]
      have := Lib.countB_le dotB (Nat.le_refl _) s.size s (Nat.le_refl _)
      omega
    refine walkB ?_
    refine k_callS (σ := Nat) (val := fun b => .slice (some ⟨b, 0, none⟩) (piecesB dotB s).length (piecesB dotB s).length) (own := fun b => [row false (.slice (some ⟨b, 0, none⟩) (piecesB dotB s).length (piecesB dotB s).length) (piecesB dotB s).length ((piecesB dotB s).map Value.string) 9 1]) (ok := fun _ => True) (fun _ => rfl) (by kernel_rfl) rfl rfl (fun w hw => (split_any s dotB m w (by omega) (cell_ext (hw.below rfl) hm) (Nat.le_refl _)).mono fun e w' ⟨b, h1, h2, h3, h4⟩ => ⟨b, h1, trivial, sat_of_blk h2 h3 h4 (by unfold maxLen; omega)⟩) ?_
    intro b _
    refine walkB ?_
    exact k_ret2 rfl rfl rfl fun w hw => ⟨_, rfl, trivial, hw⟩
  · rw [if_neg hc]
    refine walkB ?_
    exact k_ret2 rfl rfl rfl fun w hw => ⟨_, rfl, trivial, sat_nil hw⟩
/-- What Parent returns. -/
def parentG (s : ByteArray) : ByteArray × Bool := if Lib.lastIndexByte s 46 < 0 then (⟨#[]⟩, false) else if checkG s = 0 then (s.extract 0 (Lib.lastIndexByte s 46).toNat, true) else (⟨#[]⟩, false)
theorem parent_any (s : ByteArray) (m : Int) (r : World) (hs : s.size < 4611686018427387904) (hm : r.cell? ⟨0, 0, none⟩ = some (.int .i64 m)) :
    Calls Tryz.prog 18 #[.string s] r fun e w' => e = .returned (.tuple #[.string (parentG s).1, .bool (parentG s).2]) ∧ Below r.heap.size r w' := by
  have hspec := Lib.lastIndexByte_spec s 46
  refine k_enter (N := 17) Tryz.func18 rfl rfl rfl ?_
  refine walkB ?_
  refine k_callb (v := .int .i64 (Lib.lastIndexByte s 46)) (by kernel_rfl) rfl rfl (fun w hw => (Tryz.strings_LastIndex_one s ⟨#[46]⟩ rfl hs w).mono fun e w' ⟨h1, h2⟩ => ⟨h1, h2 ▸ Below.refl _ _⟩) ?_
  unfold parentG
  generalize Lib.lastIndexByte s 46 = i at hspec
  by_cases hi : i < 0
  · rw [if_pos hi]
    refine walkB ?_
    exact k_ret2 rfl rfl rfl fun w hw => ⟨rfl, hw.below rfl⟩
  rw [if_neg hi]
  obtain ⟨j, hj, rfl⟩ : ∃ j : Nat, j < s.size ∧ i = (j : Int) := by
    rcases hspec with ⟨h, _⟩ | ⟨j, hj, h, _⟩
    · omega
    · exact ⟨j, hj, h⟩
  refine walkB ?_
  refine k_callb (v := .int .i64 (checkG s)) (by kernel_rfl) rfl rfl (fun w hw => checkG_any s m w (by omega) (cell_ext (hw.below rfl) hm)) ?_
  by_cases hc : checkG s = 0
  · rw [if_pos hc, hc]
    refine walkB ?_
    exact k_ret2 rfl rfl rfl fun w hw => ⟨rfl, hw.below rfl⟩
  · rw [if_neg hc]
    refine walkB ?_
    exact k_ret2 rfl rfl rfl fun w hw => ⟨rfl, hw.below rfl⟩
/-! Strictly increasing lists with the same members are one. -/
theorem sorted_uniq {α : Type} [DecidableEq α] {lt : α → α → Prop} (irr : ∀ a, ¬ lt a a) (asym : ∀ a b, lt a b → lt b a → False) {l m : List α} (hl : l.Pairwise lt) (hm : m.Pairwise lt) (h : ∀ x, x ∈ l ↔ x ∈ m) : l = m := by
  have nd : ∀ {k : List α}, k.Pairwise lt → k.Nodup := fun hk => List.Pairwise.imp (fun {a b} hab (e : a = b) => irr a (by rw [← e] at hab; exact hab)) hk
  refine List.Perm.eq_of_pairwise (le := lt) (fun a b _ _ h1 h2 => (asym a b h1 h2).elim) hl hm ?_
  exact (List.perm_ext_iff_of_nodup (nd hl) (nd hm)).2 h
theorem childOf_uniq {l : List ByteArray} {h : ByteArray} {m m' : List ByteArray} (h1 : ChildOf l h m) (h2 : ChildOf l h m') : m = m' := by
  unfold ChildOf at h1 h2
  split at h1
  · rename_i hc
    rw [if_pos hc] at h2
    exact sorted_uniq less_irrefl (fun a b h3 h4 => less_irrefl a (less_trans h3 h4)) h1.1 h2.1 (fun x => (h1.2 x).trans (h2.2 x).symm)
  · rename_i hc
    rw [if_neg hc] at h2
    rw [h1, h2]
theorem sortOf_uniq {l m m' : List ByteArray} (h1 : SortOf l m) (h2 : SortOf l m') : m = m' := by
  unfold SortOf at h1 h2
  split at h1
  · rename_i hc
    rw [if_pos hc] at h2
    exact sorted_uniq (lt := fun a b => compareG a b < 0) (fun a h3 => by rw [compareG_zero.2 rfl] at h3; omega) (fun a b h3 h4 => by have := compareG_swap a b; omega) h1.1 h2.1 (fun x => (h1.2.1 x).trans (h2.2.1 x).symm)
  · rename_i hc
    rw [if_neg hc] at h2
    rw [h1, h2]
/-! The examples. -/
def kComp : ByteArray := ⟨#[99, 111, 109, 112, 46, 108, 97, 110, 103, 45, 97, 46, 109, 105, 115, 99]⟩
def kAcd : ByteArray := ⟨#[97, 46, 99, 46, 100]⟩
def kAb : ByteArray := ⟨#[97, 46, 98]⟩
theorem k1 : checkG kComp = 0 := by decide +kernel
theorem k2 : piecesB dotB kComp = [⟨#[99, 111, 109, 112]⟩, ⟨#[108, 97, 110, 103, 45, 97]⟩, ⟨#[109, 105, 115, 99]⟩] := by decide +kernel
theorem k7 : partsOk kComp = [⟨#[99, 111, 109, 112]⟩, ⟨#[108, 97, 110, 103, 45, 97]⟩, ⟨#[109, 105, 115, 99]⟩] := by unfold partsOk; rw [if_pos k1, k2]
theorem k3 : parentG kComp = (⟨#[99, 111, 109, 112, 46, 108, 97, 110, 103, 45, 97]⟩, true) := by decide +kernel
theorem k4 : compareG ⟨#[99, 111, 109, 112, 46, 108, 97, 110, 103, 46, 109, 105, 115, 99]⟩ ⟨#[99, 111, 109, 112, 46, 108, 97, 110, 103, 45, 97]⟩ = -1 := by decide +kernel
theorem k5 : childErr [kAcd, kAb] ⟨#[97]⟩ = 0 := by decide +kernel
theorem k6 : ChildOf [kAcd, kAb] ⟨#[97]⟩ [⟨#[98]⟩, ⟨#[99]⟩] := by
  unfold ChildOf
  rw [if_pos k5]
  have e1 : hasB kAcd (hierB ⟨#[97]⟩) = true := by decide +kernel
  have e2 : hasB kAb (hierB ⟨#[97]⟩) = true := by decide +kernel
  have e3 : firstB (restB kAcd (hierB ⟨#[97]⟩)) = ⟨#[99]⟩ := by decide +kernel
  have e4 : firstB (restB kAb (hierB ⟨#[97]⟩)) = ⟨#[98]⟩ := by decide +kernel
  refine ⟨by simp only [List.pairwise_cons, List.mem_cons, List.not_mem_nil, or_false]; exact ⟨by rintro a rfl; unfold lessS; decide +kernel, by simp, .nil⟩, fun x => ?_⟩
  constructor
  · intro h
    rcases List.mem_cons.1 h with rfl | h
    · exact ⟨kAb, by simp, e2, e4⟩
    · rw [List.mem_singleton.1 h]; exact ⟨kAcd, by simp, e1, e3⟩
  · rintro ⟨s, hs, h1, rfl⟩
    rcases List.mem_cons.1 hs with rfl | hs
    · rw [e3]; simp
    · rw [List.mem_singleton.1 hs, e4]; simp
theorem known_any (m : Int) (r : World) (hm : r.cell? ⟨0, 0, none⟩ = some (.int .i64 m)) : Calls Tryz.prog 9 #[] r fun e w' => e = .returned (.bool true) ∧ Below r.heap.size r w' := by
  refine k_enter (N := 47) Tryz.func9 rfl rfl rfl ?_
  refine walkB ?_
  refine k_callS (ok := fun _ => True) (own := fun v => [row false v (partsOk kComp).length ((partsOk kComp).map Value.string) 9 1]) (val := fun v => .tuple #[v, .int .i64 (checkG kComp : Nat)]) (fun _ => rfl) (by kernel_rfl) rfl rfl (fun w hw => splitN_any kComp m w (by decide) (cell_ext (hw.below rfl) hm)) ?_
  intro v1 _
  refine walkB ?_
  refine k_callb (by kernel_rfl) rfl rfl (fun w hw => parent_any kComp m w (by decide) (cell_ext (hw.below rfl) hm)) ?_
  rw [k3]
  refine walkB ?_
  refine k_lit (vs := [.string kAcd, .string kAb]) rfl rfl rfl rfl rfl rfl rfl ?_
  intro b0
  refine walkB ?_
  refine k_callS (σ := Value × List ByteArray) (ok := fun s => ChildOf [kAcd, kAb] ⟨#[97]⟩ s.2) (own := fun s => [row false s.1 s.2.length (s.2.map Value.string) 9 1]) (val := fun s => .tuple #[s.1, .int .i64 (childErr [kAcd, kAb] ⟨#[97]⟩ : Nat)]) (fun _ => rfl) (by kernel_rfl) rfl rfl (fun w hw => children_any _ [kAcd, kAb] ⟨#[97]⟩ m w (strs_of_blkG (l := [kAcd, kAb]) (hw.blk 0 rfl) rfl) (by decide) (by decide) (by decide) (cell_ext (hw.below rfl) hm)) ?_
  rintro ⟨v2, l2⟩ hch
  have := childOf_uniq hch k6
  subst this
  dsimp only
  rw [k1, k5]
  refine walkB ?_
  refine k_lit (vs := [.string ⟨#[99, 111, 109, 112]⟩, .string ⟨#[108, 97, 110, 103, 45, 97]⟩, .string ⟨#[109, 105, 115, 99]⟩]) rfl rfl rfl rfl rfl rfl rfl ?_
  intro b1
  refine walkB ?_
  refine k_callb (v := .bool true) (by kernel_rfl) rfl rfl (fun w hw => (same_any v1 (.slice (some ⟨b1, 0, none⟩) 3 3) (partsOk kComp) [⟨#[99, 111, 109, 112]⟩, ⟨#[108, 97, 110, 103, 45, 97]⟩, ⟨#[109, 105, 115, 99]⟩] w (by exact strs_of_row (hw.row 3 rfl)) (by exact strs_of_blkG (hw.blk 0 rfl) rfl) (by rw [k7]; decide) (by decide)).mono fun e w' h => ⟨by rw [h.1, k7]; rfl, h.2⟩) ?_
  refine walkB ?_
  refine k_callb (v := .int .i64 (-1)) (by kernel_rfl) rfl rfl (fun w hw => (compare_any _ _ m w (by decide) (by decide) (cell_ext (hw.below rfl) hm)).mono fun e w' h => ⟨by rw [h.1, k4], h.2⟩) ?_
  refine walkB ?_
  refine k_lit (vs := [.string ⟨#[98]⟩, .string ⟨#[99]⟩]) rfl rfl rfl rfl rfl rfl rfl ?_
  intro b2
  refine walkB ?_
  refine k_callb (v := .bool true) (by kernel_rfl) rfl rfl (fun w hw => (same_any v2 (.slice (some ⟨b2, 0, none⟩) 2 2) [⟨#[98]⟩, ⟨#[99]⟩] [⟨#[98]⟩, ⟨#[99]⟩] w (by exact strs_of_row (hw.row 2 rfl)) (by exact strs_of_blkG (hw.blk 0 rfl) rfl) (by decide) (by decide)).mono fun e w' h => ⟨by rw [h.1]; rfl, h.2⟩) ?_
  refine walkB ?_
  exact k_ret1 rfl rfl fun w hw => ⟨rfl, hw.below rfl⟩
end Go.Proofs.YtdolgoplflpbgaaGreatDoor
