/- Plain words, no program: the sets of positions of wildmat's Match say that the elements match. -/
import Derived.Test.YtddiecdoaggaaaaGreatDoorWildM
import Derived.Test.YtddiecdoaggaaaaGreatDoorPlainM
namespace Go.Proofs.YtddiecdoaggaaaaGreatDoor

abbrev MtE (els : List Elem) (l : List UInt8) : Prop := Mt Elem.repeats Elem.has els l
def reach (els : List Elem) (a j : Nat) : Prop := a ≤ j ∧ j ≤ els.length ∧ ∀ m, a ≤ m → m < j → reps els m = true
theorem reps_lt {els : List Elem} {m : Nat} (h : reps els m = true) : ∃ e, els[m]? = some e ∧ e.repeats = true := by
  unfold reps at h
  split at h
  · rename_i e he; exact ⟨e, he, h⟩
  · cases h
theorem enterL_mem (els : List Elem) : ∀ (f : Nat) (bs : List Bool) (i j : Nat), bs.length = els.length + 1 → i + f = els.length → ((enterL els f bs i)[j]? = some true ↔ bs[j]? = some true ∨ reach els i j) := by
  intro f
  induction f with
  | zero =>
    intro bs i j hl hi
    rw [enterL_zero, List.getElem?_set]
    by_cases hij : i = j
    · subst hij
      rw [if_pos rfl, if_pos (by omega)]
      exact ⟨fun _ => .inr ⟨Nat.le_refl _, by omega, fun m h1 h2 => by omega⟩, fun _ => rfl⟩
    · rw [if_neg hij]
      refine ⟨.inl, fun h => ?_⟩
      rcases h with h | ⟨h1, h2, _⟩
      · exact h
      · omega
  | succ f ih =>
    intro bs i j hl hi
    rw [enterL]
    have hset : (bs.set i true)[j]? = some true ↔ bs[j]? = some true ∨ i = j := by
      rw [List.getElem?_set]
      by_cases hij : i = j
      · subst hij; rw [if_pos rfl, if_pos (by omega)]; simp
      · rw [if_neg hij]; simp [hij]
    split
    · rename_i hr
      rw [ih (bs.set i true) (i + 1) j (by simpa using hl) (by omega), hset]
      constructor
      · rintro ((h | rfl) | ⟨h1, h2, h3⟩)
        · exact .inl h
        · exact .inr ⟨Nat.le_refl _, by omega, fun m h1 h2 => by omega⟩
        · refine .inr ⟨by omega, h2, fun m h4 h5 => ?_⟩
          rcases Nat.eq_or_lt_of_le h4 with rfl | h4
          · exact hr
          · exact h3 m h4 h5
      · rintro (h | ⟨h1, h2, h3⟩)
        · exact .inl (.inl h)
        · rcases Nat.eq_or_lt_of_le h1 with h1 | h1
          · exact .inl (.inr h1)
          · exact .inr ⟨h1, h2, fun m h4 h5 => h3 m (by omega) h5⟩
    · rename_i hr
      rw [hset]
      constructor
      · rintro (h | rfl)
        · exact .inl h
        · exact .inr ⟨Nat.le_refl _, by omega, fun m h1 h2 => by omega⟩
      · rintro (h | ⟨h1, h2, h3⟩)
        · exact .inl h
        · rcases Nat.eq_or_lt_of_le h1 with h1 | h1
          · exact .inr h1
          · exact absurd (h3 i (Nat.le_refl _) h1) hr
theorem enterP_mem {els : List Elem} {bs : List Bool} {i j : Nat} (hl : bs.length = els.length + 1) (hi : i ≤ els.length) : (enterP els bs i)[j]? = some true ↔ bs[j]? = some true ∨ reach els i j :=
  enterL_mem els _ bs i j hl (by omega)
theorem reach_next {els : List Elem} {a j : Nat} (h : reach els a j) (hr : reps els j = true) : reach els a (j + 1) := by
  obtain ⟨e, he, _⟩ := reps_lt hr
  have := (List.getElem?_eq_some_iff.1 he).1
  refine ⟨by have := h.1; omega, by omega, fun m h1 h2 => ?_⟩
  rcases Nat.lt_succ_iff_lt_or_eq.1 h2 with h2 | rfl
  · exact h.2.2 m h1 h2
  · exact hr
def closed (els : List Elem) (bs : List Bool) : Prop := ∀ j, bs[j]? = some true → reps els j = true → bs[j + 1]? = some true
theorem inner_mem (els : List Elem) (bs : List Bool) (c : UInt8) : ∀ (n : Nat), n ≤ els.length → ∀ j, (innerL els bs c n)[j]? = some true ↔ ∃ i e, i < n ∧ els[i]? = some e ∧ bs[i]?.getD false = true ∧ e.has c = true ∧ reach els (if e.repeats then i else i + 1) j := by
  intro n
  have hlen : ∀ n, (innerL els bs c n).length = els.length + 1 := by
    intro n
    induction n with
    | zero => simp [innerL]
    | succ n ih => unfold innerL; split <;> (try split) <;> simp [enterP, enterL_len, ih]
  induction n with
  | zero =>
    intro _ j
    constructor
    · intro h
      simp only [innerL, List.getElem?_replicate] at h
      split at h <;> cases h
    · rintro ⟨i, e, h, _⟩; omega
  | succ n ih =>
    intro hn j
    have hn' : els[n]? = some (els[n]'(by omega)) := List.getElem?_eq_getElem (by omega)
    rw [innerL, hn']
    dsimp only
    by_cases hc : (bs[n]?.getD false && (els[n]'(by omega)).has c) = true
    · rw [if_pos hc]
      rw [Bool.and_eq_true] at hc
      have hle : (if (els[n]'(by omega)).repeats then n else n + 1) ≤ els.length := by split <;> omega
      rw [enterP_mem (hlen n) hle, ih (by omega)]
      constructor
      · rintro (⟨i, e, h1, h2⟩ | h)
        · exact ⟨i, e, by omega, h2⟩
        · exact ⟨n, _, by omega, hn', hc.1, hc.2, h⟩
      · rintro ⟨i, e, h1, h2, h3, h4, h5⟩
        rcases Nat.lt_succ_iff_lt_or_eq.1 h1 with h1 | rfl
        · exact .inl ⟨i, e, h1, h2, h3, h4, h5⟩
        · rw [hn'] at h2
          cases h2
          exact .inr h5
    · rw [if_neg hc, ih (by omega)]
      constructor
      · rintro ⟨i, e, h1, h2⟩; exact ⟨i, e, by omega, h2⟩
      · rintro ⟨i, e, h1, h2, h3, h4, h5⟩
        rcases Nat.lt_succ_iff_lt_or_eq.1 h1 with h1 | rfl
        · exact ⟨i, e, h1, h2, h3, h4, h5⟩
        · rw [hn'] at h2
          cases h2
          rw [h3, h4] at hc
          exact absurd rfl hc
theorem inner_closed (els : List Elem) (bs : List Bool) (c : UInt8) : closed els (innerL els bs c els.length) := by
  intro j hj hr
  rw [inner_mem els bs c _ (Nat.le_refl _)] at hj ⊢
  obtain ⟨i, e, h1, h2, h3, h4, h5⟩ := hj
  exact ⟨i, e, h1, h2, h3, h4, reach_next h5 hr⟩
theorem reach_mt {els : List Elem} {a j : Nat} {l : List UInt8} (h : reach els a j) (hm : MtE (els.drop j) l) : MtE (els.drop a) l := by
  obtain ⟨h1, h2, h3⟩ := h
  obtain ⟨d, rfl⟩ : ∃ d, j = a + d := ⟨j - a, by omega⟩
  clear h1
  induction d with
  | zero => exact hm
  | succ d ih =>
    refine ih ?_ (by omega) (fun m h4 h5 => h3 m h4 (by omega))
    obtain ⟨e, he, hr⟩ := reps_lt (h3 (a + d) (by omega) (by omega))
    obtain ⟨hlt, rfl⟩ := List.getElem?_eq_some_iff.1 he
    rw [List.drop_eq_getElem_cons hlt]
    exact (mt_star hr).2 ⟨0, Nat.zero_le _, rfl, hm⟩
theorem step_mt {els : List Elem} {bs : List Bool} {c : UInt8} {l : List UInt8} (hcl : closed els bs) : (∃ j, bs[j]? = some true ∧ MtE (els.drop j) (c :: l)) ↔ ∃ j, (innerL els bs c els.length)[j]? = some true ∧ MtE (els.drop j) l := by
  constructor
  · rintro ⟨j, hj, hm⟩
    have key : ∀ (d j : Nat), els.length - j = d → bs[j]? = some true → MtE (els.drop j) (c :: l) → ∃ j, (innerL els bs c els.length)[j]? = some true ∧ MtE (els.drop j) l := by
      intro d
      induction d with
      | zero =>
        intro j hd _ hm
        rw [List.drop_eq_nil_of_le (by omega)] at hm
        have : c :: l = [] := hm
        cases this
      | succ d ih =>
        intro j hd hj hm
        have hlt : j < els.length := by omega
        have hje : els[j]? = some els[j] := List.getElem?_eq_getElem hlt
        rw [List.drop_eq_getElem_cons hlt] at hm
        cases hr : els[j].repeats with
        | true =>
          obtain ⟨k, hk, h1, h2⟩ := (mt_star hr).1 hm
          cases k with
          | zero =>
            refine ih (j + 1) (by omega) (hcl j hj ?_) (by simpa using h2)
            unfold reps; rw [hje]; exact hr
          | succ k =>
            simp only [List.take_succ_cons, List.all_cons, Bool.and_eq_true, List.drop_succ_cons] at h1 h2
            refine ⟨j, (inner_mem els bs c _ (Nat.le_refl _) j).2 ⟨j, els[j], hlt, hje, by rw [hj]; rfl, h1.1, ?_⟩, ?_⟩
            · rw [if_pos hr]; exact ⟨Nat.le_refl _, by omega, fun m h3 h4 => by omega⟩
            · rw [List.drop_eq_getElem_cons hlt]
              exact (mt_star hr).2 ⟨k, by simpa using hk, h1.2, h2⟩
        | false =>
          obtain ⟨c', l', h1, h2, h3⟩ := (mt_one hr).1 hm
          simp only [List.cons.injEq] at h1
          obtain ⟨rfl, rfl⟩ := h1
          refine ⟨j + 1, (inner_mem els bs c _ (Nat.le_refl _) (j + 1)).2 ⟨j, els[j], hlt, hje, by rw [hj]; rfl, h2, ?_⟩, h3⟩
          rw [if_neg (by simp [hr])]; exact ⟨Nat.le_refl _, by omega, fun m h3 h4 => by omega⟩
    exact key _ j rfl hj hm
  · rintro ⟨j, hj, hm⟩
    obtain ⟨i, e, h1, h2, h3, h4, h5⟩ := (inner_mem els bs c _ (Nat.le_refl _) j).1 hj
    have hbi : bs[i]? = some true := by
      cases hb : bs[i]? with
      | none => rw [hb] at h3; cases h3
      | some b => rw [hb] at h3; exact congrArg some h3
    have hm' := reach_mt h5 hm
    obtain ⟨hlt, rfl⟩ := List.getElem?_eq_some_iff.1 h2
    refine ⟨i, hbi, ?_⟩
    cases hr : els[i].repeats with
    | true =>
      rw [if_pos hr, List.drop_eq_getElem_cons hlt] at hm'
      rw [List.drop_eq_getElem_cons hlt]
      obtain ⟨k, hk, h6, h7⟩ := (mt_star hr).1 hm'
      exact (mt_star hr).2 ⟨k + 1, by simpa using hk, by simp [h4, h6], by simpa using h7⟩
    | false =>
      rw [if_neg (by simp [hr])] at hm'
      rw [List.drop_eq_getElem_cons hlt]
      exact (mt_one hr).2 ⟨c, l, rfl, h4, hm'⟩
theorem end_mt {els : List Elem} {bs : List Bool} (hcl : closed els bs) : (∃ j, bs[j]? = some true ∧ j ≤ els.length ∧ MtE (els.drop j) []) ↔ bs[els.length]? = some true := by
  constructor
  · rintro ⟨j, hj, hle, hm⟩
    obtain ⟨d, hd⟩ : ∃ d, els.length = j + d := ⟨els.length - j, by omega⟩
    clear hle
    induction d generalizing j with
    | zero => rw [hd]; exact hj
    | succ d ih =>
      have hlt : j < els.length := by omega
      rw [List.drop_eq_getElem_cons hlt] at hm
      cases hr : els[j].repeats with
      | true =>
        obtain ⟨k, hk, _, h2⟩ := (mt_star hr).1 hm
        refine ih (j + 1) (hcl j hj ?_) (by simpa using h2) (by omega)
        unfold reps; rw [List.getElem?_eq_getElem hlt]; exact hr
      | false =>
        obtain ⟨c, l', h1, _⟩ := (mt_one hr).1 hm
        cases h1
  · intro h
    exact ⟨els.length, h, Nat.le_refl _, by rw [List.drop_length]; rfl⟩
theorem start_mem (els : List Elem) (j : Nat) : (startL els)[j]? = some true ↔ reach els 0 j := by
  unfold startL
  rw [enterP_mem (by simp) (Nat.zero_le _)]
  constructor
  · rintro (h | h)
    · rw [List.getElem?_replicate] at h
      split at h <;> cases h
    · exact h
  · exact .inr
theorem match_mt (els : List Elem) (name : List UInt8) : matchP els name = true ↔ MtE els name := by
  have hlen : ∀ bs c, (innerL els bs c els.length).length = els.length + 1 := by
    intro bs c
    have : ∀ n, (innerL els bs c n).length = els.length + 1 := by
      intro n
      induction n with
      | zero => simp [innerL]
      | succ n ih => unfold innerL; split <;> (try split) <;> simp [enterP, enterL_len, ih]
    exact this _
  have hle : ∀ (bs : List Bool) j, bs.length = els.length + 1 → bs[j]? = some true → j ≤ els.length := fun bs j h1 h2 => by
    have := (List.getElem?_eq_some_iff.1 h2).1; omega
  have key : ∀ (l : List UInt8) (bs : List Bool), bs.length = els.length + 1 → closed els bs → ((matchL els l bs)[els.length]? = some true ↔ ∃ j, bs[j]? = some true ∧ MtE (els.drop j) l) := by
    intro l
    induction l with
    | nil =>
      intro bs hl hcl
      rw [matchL, ← end_mt hcl]
      constructor
      · rintro ⟨j, h1, _, h2⟩; exact ⟨j, h1, h2⟩
      · rintro ⟨j, h1, h2⟩; exact ⟨j, h1, hle bs j hl h1, h2⟩
    | cons c l ih =>
      intro bs hl hcl
      rw [matchL, ih _ (hlen bs c) (inner_closed els bs c), step_mt hcl]
  have hs : (startL els).length = els.length + 1 := by unfold startL enterP; rw [enterL_len]; simp
  have hclS : closed els (startL els) := fun j hj hr => (start_mem els (j + 1)).2 (reach_next ((start_mem els j).1 hj) hr)
  unfold matchP
  have h1 : ((matchL els name (startL els))[els.length]?.getD false = true) ↔ (matchL els name (startL els))[els.length]? = some true := by
    cases (matchL els name (startL els))[els.length]? <;> simp
  rw [h1, key name _ hs hclS]
  constructor
  · rintro ⟨j, h2, h3⟩
    exact reach_mt ((start_mem els j).1 h2) h3
  · intro h
    exact ⟨0, (start_mem els 0).2 ⟨Nat.le_refl _, Nat.zero_le _, fun m h1 h2 => by omega⟩, h⟩
end Go.Proofs.YtddiecdoaggaaaaGreatDoor
