/- Names of groups: components, the walk of Check. -/
import Derived.Test.YtdolgoplflpbgaaGreatDoorWalkB
import Derived.Test.YtdolgoplflpbgaaGreatDoorTypes
import Derived.Test.YtdolgoplflpbgaaGreatDoorBase
import Derived.Test.YtdolgoplflpbgaaGreatDoorStrs
import Derived.Test.YtdolgoplflpbgaaGreatDoorShelf
import Derived.Lib.TrimUEq
import Derived.Shelf.GgClosure.StringsIndexFunc
namespace Go.Proofs.YtdolgoplflpbgaaGreatDoor
open Go.RowKit

/-! Plain words. -/
def permB (n : Nat) : Bool := decide (97 ≤ n ∧ n ≤ 122 ∨ 48 ≤ n ∧ n ≤ 57 ∨ n = 45 ∨ n = 43 ∨ n = 95)
def compB (l : List UInt8) : Bool := decide (1 ≤ l.length) && decide (l.length ≤ 20) && decide (97 ≤ (byteAt l 0).toNat ∧ (byteAt l 0).toNat ≤ 122) && l.all fun c => permB c.toNat
def dotB : ByteArray := ⟨#[46]⟩
def piecesB (sep s : ByteArray) : List ByteArray := Lib.splitB sep 0 (Lib.countB s sep) s
def checkG (s : ByteArray) : Nat := if 80 < s.size then 5 else if (piecesB dotB s).any (fun p => !compB p.data.toList) then 12 else if 10 < (piecesB dotB s).length then 9 else 0
theorem piecesB_len (sep s : ByteArray) (h : 1 ≤ sep.size) : (piecesB sep s).length = Lib.countB s sep + 1 := Lib.splitB_all sep h 0 _ s rfl
theorem decodeN_big {n b0 b1 b2 b3 : Nat} (h : 128 ≤ b0) : 128 ≤ (Lib.decodeN n b0 b1 b2 b3).1 := by
  unfold Lib.decodeN
  rw [if_neg (by omega)]
  repeat' split
  all_goals first | omega | (simp only; omega)
theorem idxFunc_iff {p : Nat → Bool} (hp : ∀ n, 128 ≤ n → p n = true) (s : ByteArray) : ∀ (f pos : Nat), s.size ≤ pos + f → (0 ≤ Lib.idxFuncFrom p true s f pos ↔ ∃ j, pos ≤ j ∧ j < s.size ∧ p (byteAt s.data.toList j).toNat = true) := by
  intro f
  induction f with
  | zero =>
    intro pos h
    rw [Lib.idxFuncFrom]
    constructor
    · intro h; omega
    · rintro ⟨j, h1, h2, _⟩; omega
  | succ f ih =>
    intro pos h
    rw [Lib.idxFuncFrom]
    by_cases hlt : pos < s.size
    · rw [if_pos hlt]
      have hget : (s.data.toList.getD pos 0) = byteAt s.data.toList pos := by unfold byteAt; rw [List.getD_eq_getElem?_getD]
      by_cases h128 : (byteAt s.data.toList pos).toNat < 128
      · have hd : Utf8.decode s pos = ((byteAt s.data.toList pos).toNat, 1) := by
          rw [Lib.decode_N, hget, Lib.decodeN_ascii _ _ _ _ _ h128]
        rw [hd]
        dsimp only
        by_cases hb : p (byteAt s.data.toList pos).toNat = true
        · rw [if_pos hb]
          exact ⟨fun _ => ⟨pos, Nat.le_refl _, hlt, hb⟩, fun _ => by omega⟩
        · rw [if_neg hb, ih (pos + 1) (by omega)]
          constructor
          · rintro ⟨j, h1, h2, h3⟩; exact ⟨j, by omega, h2, h3⟩
          · rintro ⟨j, h1, h2, h3⟩
            refine ⟨j, ?_, h2, h3⟩
            rcases Nat.lt_or_ge pos j with h4 | h4
            · exact h4
            · exact absurd (show j = pos by omega ▸ h3) (by intro e; rw [show j = pos by omega] at h3; exact hb h3)
      · have hbig : 128 ≤ (Utf8.decode s pos).1 := by
          rw [Lib.decode_N, hget]; exact decodeN_big (by omega)
        rw [if_pos (hp _ hbig)]
        exact ⟨fun _ => ⟨pos, Nat.le_refl _, hlt, hp _ (by omega)⟩, fun _ => by omega⟩
    · rw [if_neg hlt]
      constructor
      · intro h; omega
      · rintro ⟨j, h1, h2, _⟩; omega
theorem perm_big (n : Nat) (h : 128 ≤ n) : (!permB n) = true := by unfold permB; simp; omega
theorem noPerm_iff (s : ByteArray) : decide (0 ≤ Lib.idxFunc (fun n => !permB n) true s) = !(s.data.toList.all fun c => permB c.toNat) := by
  have h := idxFunc_iff (p := fun n => !permB n) perm_big s s.size 0 (by omega)
  rw [Bool.eq_iff_iff, decide_eq_true_iff]
  refine Iff.trans h ?_
  rw [Bool.not_eq_true', List.all_eq_false]
  constructor
  · rintro ⟨j, _, h2, h3⟩
    refine ⟨byteAt s.data.toList j, ?_, by simpa using h3⟩
    rw [byteAt_eq s j h2]
    show s.data[j]'h2 ∈ _
    simp
  · rintro ⟨x, hx, h3⟩
    obtain ⟨j, hj, rfl⟩ := List.getElem_of_mem hx
    refine ⟨j, Nat.zero_le _, by simpa using hj, ?_⟩
    unfold byteAt
    rw [List.getElem?_eq_getElem hj]
    simpa using h3
set_option maxRecDepth 100000
attribute [local irreducible] K KS KLeft KRound J OV EV EU Blk wpList Code.wp bodyPost Exit.then Exit.inBlock Round Left Hid JS wpStill wpHeld Calls
theorem perm_any (n : Nat) (r : World) : Calls Tryz.prog 69 #[.int .i32 (n : Int)] r fun e w' => e = .returned (.bool (permB n)) ∧ Below r.heap.size r w' := by
  unfold permB
  refine k_enter (N := 29) Tryz.func69 rfl rfl rfl ?_
  by_cases h1 : 97 ≤ n ∧ n ≤ 122
  · rw [decide_eq_true (.inl h1)]
    refine walkB ?_
    exact k_ret1 rfl rfl fun w hw => ⟨rfl, hw.below rfl⟩
  by_cases h2 : 48 ≤ n ∧ n ≤ 57
  · rw [decide_eq_true (.inr (.inl h2))]
    by_cases g : 97 ≤ n
    · refine walkB ?_
      exact k_ret1 rfl rfl fun w hw => ⟨rfl, hw.below rfl⟩
    · refine walkB ?_
      exact k_ret1 rfl rfl fun w hw => ⟨rfl, hw.below rfl⟩
  by_cases h3 : n = 45
  · subst h3
    refine walkB ?_
    exact k_ret1 rfl rfl fun w hw => ⟨rfl, hw.below rfl⟩
  by_cases h4 : n = 43
  · subst h4
    refine walkB ?_
    exact k_ret1 rfl rfl fun w hw => ⟨rfl, hw.below rfl⟩
  by_cases h5 : n = 95
  · subst h5
    refine walkB ?_
    exact k_ret1 rfl rfl fun w hw => ⟨rfl, hw.below rfl⟩
  rw [decide_eq_false (by omega)]
  by_cases g1 : 97 ≤ n
  · refine walkB ?_
    exact k_ret1 rfl rfl fun w hw => ⟨rfl, hw.below rfl⟩
  · by_cases g2 : 48 ≤ n
    · refine walkB ?_
      exact k_ret1 rfl rfl fun w hw => ⟨rfl, hw.below rfl⟩
    · refine walkB ?_
      exact k_ret1 rfl rfl fun w hw => ⟨rfl, hw.below rfl⟩
theorem comp1_any (n : Nat) (r : World) : Calls Tryz.prog 68 #[.int .i32 (n : Int)] r fun e w' => e = .returned (.bool (!permB n)) ∧ Below r.heap.size r w' := by
  refine k_enter (N := 6) Tryz.func68 rfl rfl rfl ?_
  refine walkB ?_
  refine k_callb (v := .bool (permB n)) (by kernel_rfl) rfl rfl (fun w hw => perm_any n w) ?_
  refine walkB ?_
  exact k_ret1 rfl rfl fun w hw => ⟨rfl, hw.below rfl⟩
theorem contS_any (s : ByteArray) (r : World) : Calls Tryz.prog 67 #[.string s, .func (.func 68) #[] #[]] r fun e w' => e = .returned (.bool (!(s.data.toList.all fun c => permB c.toNat))) ∧ Below r.heap.size r w' := by
  have h := Tryz.strings_ContainsFunc_grows 68 #[] (enters_of Tryz.func68 (by kernel_rfl) rfl) (fun n => !permB n) s r (fun W x _ _ => by
    show Calls Tryz.prog 68 (#[.int .i32 (x : Int)] ++ #[]) W _
    exact comp1_any x W)
  rw [noPerm_iff] at h
  exact h
attribute [local irreducible] permB byteAt
theorem comp_any (s : ByteArray) (r : World) : Calls Tryz.prog 47 #[.string s] r fun e w' => e = .returned (.bool (compB s.data.toList)) ∧ Below r.heap.size r w' := by
  have hlen : s.data.toList.length = s.size := len_data s
  unfold compB
  rw [hlen]
  refine k_enter (N := 25) Tryz.func47 rfl rfl rfl ?_
  by_cases h0 : s = ⟨#[]⟩
  · have hz : s.size = 0 := by rw [h0]; rfl
    rw [decide_eq_false (by omega : ¬ 1 ≤ s.size)]
    refine walkB ?_
    exact k_ret1 rfl rfl fun w hw => ⟨rfl, hw.below rfl⟩
  have h1 : s.size ≠ 0 := fun h => h0 (by
    cases s with | mk d => simp [ByteArray.size] at h; rw [h])
  rw [decide_eq_true (by omega : 1 ≤ s.size)]
  by_cases h20 : s.size ≤ 20
  · rw [decide_eq_true h20]
    have h256 := UInt8.toNat_lt (byteAt s.data.toList 0)
    by_cases g1 : 97 ≤ (byteAt s.data.toList 0).toNat
    · by_cases g2 : (byteAt s.data.toList 0).toNat ≤ 122
      · rw [decide_eq_true ⟨g1, g2⟩]
        refine walkB ?_
        refine k_callb (v := .bool (!(s.data.toList.all fun c => permB c.toNat))) (by kernel_rfl) rfl rfl (fun w hw => contS_any s w) ?_
        refine walkB ?_
        exact k_ret1 rfl rfl fun w hw => ⟨ret_bool (by simp), hw.below rfl⟩
      · rw [decide_eq_false (fun h => g2 h.2)]
        refine walkB ?_
        exact k_ret1 rfl rfl fun w hw => ⟨rfl, hw.below rfl⟩
    · rw [decide_eq_false (fun h => g1 h.1)]
      refine walkB ?_
      exact k_ret1 rfl rfl fun w hw => ⟨rfl, hw.below rfl⟩
  · rw [decide_eq_false h20]
    refine walkB ?_
    exact k_ret1 rfl rfl fun w hw => ⟨rfl, hw.below rfl⟩
theorem check1_any (s : ByteArray) (r : World) : Calls Tryz.prog 46 #[.string s] r fun e w' => e = .returned (.bool (!compB s.data.toList)) ∧ Below r.heap.size r w' := by
  refine k_enter (N := 6) Tryz.func46 rfl rfl rfl ?_
  refine walkB ?_
  refine k_callb (v := .bool (compB s.data.toList)) (by kernel_rfl) rfl rfl (fun w hw => comp_any s w) ?_
  refine walkB ?_
  exact k_ret1 rfl rfl fun w hw => ⟨rfl, hw.below rfl⟩
/-- The place of the first string with p, or -1. -/
def firstS (p : ByteArray → Bool) : List ByteArray → Nat → Int
  | [], _ => -1
  | x :: l, i => if p x then (i : Int) else firstS p l (i + 1)
theorem firstS_any (p : ByteArray → Bool) : ∀ (l : List ByteArray) (i : Nat), decide (0 ≤ firstS p l i) = l.any p
  | [], i => rfl
  | x :: l, i => by
    rw [firstS, List.any_cons]
    cases hp : p x with
    | true => rw [if_pos rfl]; simp
    | false => rw [if_neg (by simp), firstS_any p l (i + 1)]; simp
theorem indF_any {g : Nat} (hg : callable Tryz.prog g = true) (p : ByteArray → Bool) (v : Value) (l : List ByteArray) (r : World) (hv : StrsAt r v l) (hn : l.length ≤ 9223372036854775807)
    (hf : ∀ s ∈ l, ∀ w, Calls Tryz.prog g #[.string s] w fun e w' => e = .returned (.bool (p s)) ∧ Below w.heap.size w w') :
    Calls Tryz.prog 66 #[v, .func (.func g) #[] #[]] r fun e w' => e = .returned (.int .i64 (firstS p l 0)) ∧ Below r.heap.size r w' := by
  obtain ⟨ea, cap, rfl, _, hc⟩ := hv
  refine k_enter (N := 19) Tryz.func66 rfl rfl rfl ?_
  refine walkB ?_
  refine k_loop (σ := Nat) (fun k => [(0, .slice ea l.length cap), (1, .func (.func g) #[] #[]), (7, .int .i64 l.length), (8, .int .i64 k)]) (fun _ => []) (fun k => k ≤ l.length ∧ firstS p (l.drop k) k = firstS p l 0) (fun k => l.length - k) 0 (by repeat (first | exact Sub.nil | refine Sub.cons rfl ?_)) (by repeat (first | exact SubO.nil | refine SubO.keep ?_ | refine SubO.drop rfl ?_)) ⟨Nat.zero_le _, rfl⟩ ?_
  rintro k ⟨hk, hC⟩
  by_cases hlt : k < l.length
  · obtain ⟨b, o, rfl, hcell⟩ := hc k l[k] (by simp [hlt])
    have hfk := hf l[k] (List.getElem_mem _)
    rw [List.drop_eq_getElem_cons hlt, firstS] at hC
    generalize l[k] = s at hcell hC hfk
    refine walkB ?_
    refine k_callvb hg rfl (fun w hw => hfk w) rfl rfl (by rfl) ?_
    cases hp : p s with
    | true =>
      rw [hp] at hC
      refine walkB ?_
      exact k_ret1 rfl rfl fun w hw => ⟨by rw [← hC]; rfl, hw.below rfl⟩
    | false =>
      rw [hp] at hC
      refine walkB ?_
      exact k_round (k + 1) (by repeat (first | exact Sub.nil | refine Sub.cons rfl ?_)) (by repeat (first | exact SubO.nil | refine SubO.keep ?_ | refine SubO.drop rfl ?_)) ⟨by omega, by rw [← hC]; rfl⟩ (by omega)
  · rw [List.drop_eq_nil_of_le (by omega), firstS] at hC
    refine walkB ?_
    exact k_ret1 rfl rfl fun w hw => ⟨by rw [← hC], hw.below rfl⟩
theorem firstS_bd (p : ByteArray → Bool) : ∀ (l : List ByteArray) (i : Nat), -1 ≤ firstS p l i
  | [], i => by simp [firstS]
  | x :: l, i => by
    have := firstS_bd p l (i + 1)
    unfold firstS
    split <;> omega
theorem contF_any {g : Nat} (hg : callable Tryz.prog g = true) (p : ByteArray → Bool) (v : Value) (l : List ByteArray) (r : World) (hv : StrsAt r v l) (hn : l.length ≤ 9223372036854775807)
    (hf : ∀ s ∈ l, ∀ w, Calls Tryz.prog g #[.string s] w fun e w' => e = .returned (.bool (p s)) ∧ Below w.heap.size w w') :
    Calls Tryz.prog 45 #[v, .func (.func g) #[] #[]] r fun e w' => e = .returned (.bool (l.any p)) ∧ Below r.heap.size r w' := by
  rw [← firstS_any p l 0]
  refine k_enter (N := 9) Tryz.func45 rfl rfl rfl ?_
  refine walkB ?_
  refine k_callb (v := .int .i64 (firstS p l 0)) (by kernel_rfl) rfl rfl (fun w hw => indF_any hg p v l w (hv.ext (hw.below rfl)) hn hf) ?_
  refine walkB ?_
  exact k_ret1 rfl rfl fun w hw => ⟨rfl, hw.below rfl⟩
/-- Split: the pieces lie in a new block. -/
theorem split_any (s sep : ByteArray) (m : Int) (w : World) (hs : s.size < 4294967281) (hm : w.cell? ⟨0, 0, none⟩ = some (.int .i64 m)) (h1 : 1 ≤ sep.size) :
    Calls Tryz.prog 43 #[.string s, .string sep] w fun e w' => ∃ b, e = .returned (.slice (some ⟨b, 0, none⟩) (piecesB sep s).length (piecesB sep s).length) ∧ Blk w' b ((piecesB sep s).map Value.string) 9 ∧ w.heap.size ≤ b ∧ Below w.heap.size w w' := by
  refine (Tryz.strings_Split s sep m w hs hm h1).mono fun e w' ⟨he, h2⟩ => ⟨w.heap.size, by rw [he, piecesB_len sep s h1], ?_, Nat.le_refl _, by rw [h2]; exact (Below.refl _ _).alloc (Nat.le_refl _) _⟩
  rw [h2]; unfold Blk; show (w.heap.push _)[w.heap.size]? = _; simp [piecesB]
theorem strs_of_blkG {w : World} {b n : Nat} {l : List ByteArray} (h : Blk w b (l.map Value.string) 9) (hn : n = l.length) : StrsAt w (.slice (some ⟨b, 0, none⟩) n n) l := by
  subst hn
  refine ⟨some ⟨b, 0, none⟩, l.length, rfl, ⟨Nat.le_refl _, fun a ha => by cases ha; exact h.lt⟩, fun i s hi => ⟨b, 0, rfl, ?_⟩⟩
  rw [Nat.zero_add]
  exact h.cell (by rw [List.getElem?_map, hi]; rfl)
attribute [local irreducible] compB piecesB
theorem checkG_any (s : ByteArray) (m : Int) (r : World) (hs : s.size ≤ 9223372036854775807) (hm : r.cell? ⟨0, 0, none⟩ = some (.int .i64 m)) :
    Calls Tryz.prog 19 #[.string s] r fun e w' => e = .returned (.int .i64 (checkG s)) ∧ Below r.heap.size r w' := by
  unfold checkG
  refine k_enter (N := 14) Tryz.func19 rfl rfl rfl ?_
  by_cases h80 : 80 < s.size
  · rw [if_pos h80]
    refine walkB ?_
    exact k_ret1 rfl rfl fun w hw => ⟨rfl, hw.below rfl⟩
  rw [if_neg h80]
  have hpl : (piecesB dotB s).length ≤ 81 := by
    rw [piecesB_len dotB s (Nat.le_refl _)]
    have := Lib.countB_le dotB (Nat.le_refl _) s.size s (Nat.le_refl _)
    omega
  refine walkB ?_
  refine k_callp (by kernel_rfl) rfl rfl (fun w hw => split_any s dotB m w (by omega) (cell_ext (hw.below rfl) hm) (Nat.le_refl _)) ?_
  intro b
  refine walkB ?_
  refine k_callb (v := .bool ((piecesB dotB s).any fun p => !compB p.data.toList)) (by kernel_rfl) rfl rfl (fun w hw => contF_any (by kernel_rfl) (fun p => !compB p.data.toList) _ (piecesB dotB s) w (strs_of_blkG (hw.blk 0 rfl) rfl) (by omega) (fun s _ w => check1_any s w)) ?_
  cases hany : (piecesB dotB s).any fun p => !compB p.data.toList with
  | true =>
    rw [if_pos rfl]
    refine walkB ?_
    exact k_ret1 rfl rfl fun w hw => ⟨rfl, hw.below rfl⟩
  | false =>
    rw [if_neg (by simp)]
    by_cases h10 : 10 < (piecesB dotB s).length
    · rw [if_pos h10]
      refine walkB ?_
      exact k_ret1 rfl rfl fun w hw => ⟨rfl, hw.below rfl⟩
    · rw [if_neg h10]
      refine walkB ?_
      exact k_ret1 rfl rfl fun w hw => ⟨rfl, hw.below rfl⟩
end Go.Proofs.YtdolgoplflpbgaaGreatDoor
