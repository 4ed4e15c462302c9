/- The reference's insert and Sort. -/
import Derived.Test.YtdolgoplflpbgaaGreatDoorGrpL
import Derived.Test.YtdolgoplflpbgaaGreatDoorWalkT
namespace Go.Proofs.YtdolgoplflpbgaaGreatDoor
open Go.RowKit Go.Sort

/-! Plain: insertion into a strictly increasing list. -/
def insG (s : ByteArray) : List ByteArray → List ByteArray
  | [] => [s]
  | x :: l => if compareG x s < 0 then x :: insG s l else if x = s then x :: l else s :: x :: l
theorem insG_mem (s : ByteArray) : ∀ (l : List ByteArray) (y : ByteArray), y ∈ insG s l ↔ y = s ∨ y ∈ l
  | [], y => by simp [insG]
  | x :: l, y => by
    rw [insG]
    split
    · rw [List.mem_cons, insG_mem s l y, List.mem_cons]
      constructor
      · rintro (h | h | h) <;> simp [h]
      · rintro (h | h | h) <;> simp [h]
    · split
      · rename_i h; subst h; rw [List.mem_cons]; simp
      · rw [List.mem_cons]
theorem insG_len (s : ByteArray) : ∀ l : List ByteArray, (insG s l).length ≤ l.length + 1
  | [] => by simp [insG]
  | x :: l => by
    rw [insG]
    split
    · have := insG_len s l; simp; omega
    · split <;> simp
theorem insG_up (s : ByteArray) : ∀ {l : List ByteArray}, UpG l → UpG (insG s l)
  | [], _ => List.pairwise_singleton _ _
  | x :: l, h => by
    have h1 := List.pairwise_cons.1 h
    rw [insG]
    split
    · rename_i hx
      refine List.Pairwise.cons (fun y hy => ?_) (insG_up s h1.2)
      rcases (insG_mem s l y).1 hy with rfl | hy
      · exact hx
      · exact h1.1 y hy
    · rename_i hx
      split
      · exact h
      · rename_i hne
        have e0 : compareG x s ≠ 0 := fun e => hne (compareG_zero.1 e)
        have e1 := compareG_swap x s
        refine List.Pairwise.cons (fun y hy => ?_) h
        rcases List.mem_cons.1 hy with rfl | hy
        · omega
        · exact compareG_lt_trans (by omega) (h1.1 y hy)
/-- The place of the insertion. -/
theorem insG_at (s : ByteArray) : ∀ (l : List ByteArray) (k : Nat), k ≤ l.length → (∀ x ∈ l.take k, compareG x s < 0) → insG s l = l.take k ++ insG s (l.drop k)
  | l, 0 => fun _ _ => rfl
  | [], k + 1 => fun h _ => by simp at h
  | x :: l, k + 1 => fun h h1 => by
    rw [insG, if_pos (h1 x (by simp)), List.take_succ_cons, List.drop_succ_cons, insG_at s l k (by simpa using h) (fun y hy => h1 y (by simp [hy])), List.cons_append]
def insAll (l : List ByteArray) : List ByteArray := l.foldl (fun m s => insG s m) []
theorem insAll_snoc (l : List ByteArray) (s : ByteArray) : insAll (l ++ [s]) = insG s (insAll l) := by unfold insAll; rw [List.foldl_append]; rfl
theorem insAll_facts (l : List ByteArray) : UpG (insAll l) ∧ (∀ x, x ∈ insAll l ↔ x ∈ l) ∧ (insAll l).length ≤ l.length := by
  have key : ∀ n, ∀ l : List ByteArray, l.length = n → UpG (insAll l) ∧ (∀ x, x ∈ insAll l ↔ x ∈ l) ∧ (insAll l).length ≤ l.length := by
    intro n
    induction n with
    | zero => intro l h; have := List.eq_nil_of_length_eq_zero h; subst this; exact ⟨.nil, fun x => Iff.rfl, Nat.le_refl _⟩
    | succ n ih =>
      intro l h
      have hne : l ≠ [] := fun e => by subst e; simp at h
      obtain ⟨m, s, rfl⟩ : ∃ m s, l = m ++ [s] := ⟨l.dropLast, l.getLast hne, (List.dropLast_concat_getLast hne).symm⟩
      obtain ⟨h1, h2, h3⟩ := ih m (by simpa using h)
      rw [insAll_snoc]
      refine ⟨insG_up s h1, fun x => ?_, by have := insG_len s (insAll m); simp; omega⟩
      rw [insG_mem, h2, List.mem_append, List.mem_singleton]
      exact Or.comm
  exact key _ l rfl
set_option maxRecDepth 100000
attribute [local irreducible] K KS KLeft KRound J OV EV EU Blk wpList Code.wp bodyPost Exit.then Exit.inBlock Round Left Hid JS wpStill wpHeld Calls
attribute [local irreducible] wpT
attribute [local irreducible] compareG piecesB
theorem insert_any (v : Value) (l : List ByteArray) (s : ByteArray) (r : World) (hv : r.ownsRow 0 9 1 v l.length (l.map Value.string)) (hl : ∀ x ∈ l, x.size ≤ 1000000000) (hs : s.size ≤ 1000000000) (hn : l.length ≤ 1000000) :
    Calls Tryz.prog 33 #[v, .string s] r fun e w' => ∃ v', e = .returned v' ∧ ((v' = v ∧ insG s l = l ∧ Below r.heap.size r w') ∨ Sat r [row false v' (insG s l).length ((insG s l).map Value.string) 9 1] w') := by
  obtain ⟨ea, cap, rfl⟩ := own_slice hv
  have hI := rowIs_own hv
  obtain ⟨ea', cap', he, _, hca⟩ := strs_of_row hv
  injection he with e1 e2 e3
  subst e1 e3
  clear e2 hv
  refine k_enter (N := 46) Tryz.func33 rfl rfl rfl ?_
  apply k_join (σ := Nat) (fun k => [(0, .slice ea l.length cap), (1, .string s), (5, .int .i64 k)]) (fun _ => []) (fun k => k ≤ l.length ∧ insG s l = l.take k ++ s :: l.drop k)
  · intro key
    refine walkB ?_
    refine k_loop (σ := Nat) (fun k => [(0, .slice ea l.length cap), (1, .string s), (5, .int .i64 k)]) (fun _ => []) (fun k => k ≤ l.length ∧ ∀ x ∈ l.take k, compareG x s < 0) (fun k => l.length - k) 0 (by repeat (first | exact Sub.nil | refine Sub.cons rfl ?_)) (by repeat (first | exact SubO.nil | refine SubO.keep ?_ | refine SubO.drop rfl ?_)) ⟨Nat.zero_le _, by simp⟩ ?_
    rintro k ⟨hk, hT⟩
    have hat := insG_at s l k hk hT
    by_cases hlt : k < l.length
    · obtain ⟨b, o, hea, hcell⟩ := hca k l[k] (by simp [hlt])
      have hx := hl l[k] (List.getElem_mem hlt)
      have hT2 : compareG l[k] s < 0 → ∀ x ∈ l.take (k + 1), compareG x s < 0 := by
        intro h0 x hx
        rw [List.take_succ_eq_append_getElem hlt, List.mem_append] at hx
        rcases hx with hx | hx
        · exact hT x hx
        · rw [List.mem_singleton.1 hx]; exact h0
      have hkey : ¬ compareG l[k] s < 0 → (l[k] = s → insG s l = l) ∧ (l[k] ≠ s → insG s l = l.take k ++ s :: l.drop k) := by
        intro h0
        rw [List.drop_eq_getElem_cons hlt, insG, if_neg h0] at hat
        constructor
        · intro h1; rw [hat, if_pos h1, ← List.drop_eq_getElem_cons hlt, List.take_append_drop]
        · intro h1; rw [hat, if_neg h1, ← List.drop_eq_getElem_cons hlt]
      generalize l[k] = x at hcell hT2 hkey hx
      refine walkB ?_
      refine k_op rfl (fun _ _ => ov_indexAddrE1 hea rfl rfl k rfl hlt) ?_
      refine walkB ?_
      refine k_callb (v := .int .i64 (compareG x s)) (by kernel_rfl) rfl rfl (fun w hw => refCompare_any x s w hx hs) ?_
      by_cases h0 : compareG x s < 0
      · refine walkB ?_
        refine k_round (k + 1) (by repeat (first | exact Sub.nil | refine Sub.cons rfl ?_)) (by repeat (first | exact SubO.nil | refine SubO.keep ?_ | refine SubO.drop rfl ?_)) ⟨by omega, hT2 h0⟩ (by omega)
      · refine walkB ?_
        refine k_op rfl (fun _ _ => ov_indexAddrE1 hea rfl rfl k rfl hlt) ?_
        refine walkB ?_
        refine k_condd rfl (fun h1 => ?_) (fun h1 => ?_)
        · refine walkB ?_
          exact k_ret1 rfl rfl fun w hw => ⟨_, rfl, .inl ⟨rfl, (hkey h0).1 h1, hw.below rfl⟩⟩
        · refine walkB ?_
          exact key _ _ k (by repeat (first | exact Sub.nil | refine Sub.cons rfl ?_)) (by repeat (first | exact SubO.nil | refine SubO.keep ?_ | refine SubO.drop rfl ?_)) ⟨hk, (hkey h0).2 h1⟩
    · have hkl : k = l.length := by omega
      subst hkl
      refine walkB ?_
      exact key _ _ l.length (by repeat (first | exact Sub.nil | refine Sub.cons rfl ?_)) (by repeat (first | exact SubO.nil | refine SubO.keep ?_ | refine SubO.drop rfl ?_)) ⟨Nat.le_refl _, by rw [hat, List.drop_length]; rfl⟩
  rintro k ⟨hk, hins⟩
  have hlen : (insG s l).length = k + 1 + (l.length - k) := by rw [hins]; simp; omega
  rw [hlen, hins]
  refine k_heldTr 13 (.one 1 (.one 2 (.one 3 (.one 5 (.one 8 (.one 9 (.one 10 (.two 0 (.two 4 (.one 6 (.one 7 (.one 11 (.one 12 .nil)))) 6 (.one 4 (.one 7 (.one 11 (.one 12 .nil))))) 6 (.one 0 (.one 4 (.one 7 (.one 11 (.one 12 .nil))))))))))))) (by kernel_rfl) (by kernel_rfl) ?_
  refine twalkB ?_
  refine kt_op rfl rfl rfl (fun _ _ => ov_sliceto' rfl rfl k rfl (by have := hI.1; omega)) ?_
  refine twalkB ?_
  refine kt_op rfl rfl rfl (fun _ _ => ov_slicefrom rfl rfl k rfl hk) ?_
  have hnow := fun (w : World) (hb : Below r.heap.size r w) => (hI.ext hb).take k hk
  have hnow2 := fun (w : World) (hb : Below r.heap.size r w) => (hI.ext hb).drop k hk
  simp only [Nat.mul_one, ← List.map_take, ← List.map_drop] at hnow hnow2
  have hk1 : ((l.take k).map Value.string).length = k := by simp; omega
  have hk2 : ((l.drop k).map Value.string).length = l.length - k := by simp
  have hfin : (l.take k ++ s :: l.drop k).map Value.string = ((l.take k).map Value.string ++ [.string s]) ++ (l.drop k).map Value.string := by simp
  rw [hfin]
  have hall : ∀ m : List ByteArray, (m.map Value.string).all (·.oneCell') = true := fun m => by rw [List.all_map]; exact List.all_eq_true.2 fun _ _ => rfl
  refine kt_two rfl rfl ?_ ?_
  · refine k_lit0 rfl ?_; intro b0; refine kt_back (O0 := []) (by repeat (first | exact SubO.nil | refine SubO.keep ?_ | refine SubO.drop rfl ?_)) ?_
    refine kt_two rfl rfl ?_ ?_
    · refine k_appRowG (A := []) (m := k) (ys := (l.take k).map Value.string) rfl rfl rfl (fun w hw => hnow w (hw.below rfl)) (by rw [hk1, Nat.mul_one]) (hall _) rfl rfl (by omega) (by unfold maxLen; omega) ?_; intro v1; rw [Nat.zero_add k, List.nil_append]; refine kt_back (O0 := []) (by repeat (first | exact SubO.nil | refine SubO.keep ?_ | refine SubO.drop rfl ?_)) ?_
      refine kt_run rfl rfl ?_
      refine k_lit (vs := [.string s]) rfl rfl rfl rfl rfl rfl rfl ?_; intro b1; refine kt_back (O0 := []) (by repeat (first | exact SubO.nil | refine SubO.keep ?_ | refine SubO.drop rfl ?_)) ?_
      refine kt_run rfl rfl (k_appRowG (A := [bk false b1 [.string s] 9]) (m := 1) (ys := [.string s]) rfl rfl rfl (fun w hw => .inr ⟨_, _, rfl, (hw.blk 0 rfl).cells⟩) rfl rfl rfl rfl (by omega) (by unfold maxLen; omega) ?_)
      intro v2
      refine kt_back (O0 := []) (by repeat (first | exact SubO.nil | refine SubO.keep ?_ | refine SubO.drop rfl ?_)) ?_
      refine kt_run rfl rfl (k_appRowG (A := [bk false b1 [.string s] 9]) (m := l.length - k) (ys := (l.drop k).map Value.string) rfl rfl rfl (fun w hw => hnow2 w (hw.below rfl)) (by rw [hk2, Nat.mul_one]) (hall _) rfl rfl (by omega) (by unfold maxLen; omega) ?_)
      intro v3
      refine kt_back (O0 := []) (by repeat (first | exact SubO.nil | refine SubO.keep ?_ | refine SubO.drop rfl ?_)) ?_
      refine twalkB ?_
      refine walkB ?_
      exact k_ret1 rfl rfl fun w hw => ⟨_, rfl, .inr (hw.sub (by repeat (first | exact SubO.nil | refine SubO.keep ?_ | refine SubO.drop rfl ?_)))⟩
    · refine k_lit (vs := [.string s]) rfl rfl rfl rfl rfl rfl rfl ?_; intro b1; refine kt_back (O0 := []) (by repeat (first | exact SubO.nil | refine SubO.keep ?_ | refine SubO.drop rfl ?_)) ?_
      refine kt_run rfl rfl (k_appRowG (A := [bk false b1 [.string s] 9]) (m := k) (ys := (l.take k).map Value.string) rfl rfl rfl (fun w hw => hnow w (hw.below rfl)) (by rw [hk1, Nat.mul_one]) (hall _) rfl rfl (by omega) (by unfold maxLen; omega) ?_); intro v1; rw [Nat.zero_add k, List.nil_append]; refine kt_back (O0 := []) (by repeat (first | exact SubO.nil | refine SubO.keep ?_ | refine SubO.drop rfl ?_)) ?_
      refine kt_run rfl rfl (k_appRowG (A := [bk false b1 [.string s] 9]) (m := 1) (ys := [.string s]) rfl rfl rfl (fun w hw => .inr ⟨_, _, rfl, (hw.blk 0 rfl).cells⟩) rfl rfl rfl rfl (by omega) (by unfold maxLen; omega) ?_)
      intro v2
      refine kt_back (O0 := []) (by repeat (first | exact SubO.nil | refine SubO.keep ?_ | refine SubO.drop rfl ?_)) ?_
      refine kt_run rfl rfl (k_appRowG (A := [bk false b1 [.string s] 9]) (m := l.length - k) (ys := (l.drop k).map Value.string) rfl rfl rfl (fun w hw => hnow2 w (hw.below rfl)) (by rw [hk2, Nat.mul_one]) (hall _) rfl rfl (by omega) (by unfold maxLen; omega) ?_)
      intro v3
      refine kt_back (O0 := []) (by repeat (first | exact SubO.nil | refine SubO.keep ?_ | refine SubO.drop rfl ?_)) ?_
      refine twalkB ?_
      refine walkB ?_
      exact k_ret1 rfl rfl fun w hw => ⟨_, rfl, .inr (hw.sub (by repeat (first | exact SubO.nil | refine SubO.keep ?_ | refine SubO.drop rfl ?_)))⟩
  · refine k_lit (vs := [.string s]) rfl rfl rfl rfl rfl rfl rfl ?_; intro b1; refine kt_back (O0 := []) (by repeat (first | exact SubO.nil | refine SubO.keep ?_ | refine SubO.drop rfl ?_)) ?_
    refine kt_run rfl rfl ?_
    refine k_lit0 rfl ?_; intro b0; refine kt_back (O0 := []) (by repeat (first | exact SubO.nil | refine SubO.keep ?_ | refine SubO.drop rfl ?_)) ?_
    refine kt_run rfl rfl (k_appRowG (A := []) (m := k) (ys := (l.take k).map Value.string) rfl rfl rfl (fun w hw => hnow w (hw.below rfl)) (by rw [hk1, Nat.mul_one]) (hall _) rfl rfl (by omega) (by unfold maxLen; omega) ?_); intro v1; rw [Nat.zero_add k, List.nil_append]; refine kt_back (O0 := []) (by repeat (first | exact SubO.nil | refine SubO.keep ?_ | refine SubO.drop rfl ?_)) ?_
    refine kt_run rfl rfl (k_appRowG (A := []) (m := 1) (ys := [.string s]) rfl rfl rfl (fun w hw => .inr ⟨_, _, rfl, (hw.blk 1 rfl).cells⟩) rfl rfl rfl rfl (by omega) (by unfold maxLen; omega) ?_)
    intro v2
    refine kt_back (O0 := []) (by repeat (first | exact SubO.nil | refine SubO.keep ?_ | refine SubO.drop rfl ?_)) ?_
    refine kt_run rfl rfl (k_appRowG (A := []) (m := l.length - k) (ys := (l.drop k).map Value.string) rfl rfl rfl (fun w hw => hnow2 w (hw.below rfl)) (by rw [hk2, Nat.mul_one]) (hall _) rfl rfl (by omega) (by unfold maxLen; omega) ?_)
    intro v3
    refine kt_back (O0 := []) (by repeat (first | exact SubO.nil | refine SubO.keep ?_ | refine SubO.drop rfl ?_)) ?_
    refine twalkB ?_
    refine walkB ?_
    exact k_ret1 rfl rfl fun w hw => ⟨_, rfl, .inr (hw.sub (by repeat (first | exact SubO.nil | refine SubO.keep ?_ | refine SubO.drop rfl ?_)))⟩
end Go.Proofs.YtdolgoplflpbgaaGreatDoor
