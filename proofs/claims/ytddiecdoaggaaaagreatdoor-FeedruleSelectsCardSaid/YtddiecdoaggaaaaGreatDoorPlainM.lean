/- Plain words, no program: what it means that a list of elements matches a string; the reckoning by rows. -/
namespace Go.Proofs.YtddiecdoaggaaaaGreatDoor

section
variable {α : Type} (st : α → Bool) (hs : α → UInt8 → Bool)
/-- st: does the element stand for a sequence; hs: for which characters does it stand. -/
def Mt : List α → List UInt8 → Prop
  | [], l => l = []
  | e :: es, l => if st e = true then ∃ k, k ≤ l.length ∧ (l.take k).all (hs e) = true ∧ Mt es (l.drop k) else ∃ c l', l = c :: l' ∧ hs e c = true ∧ Mt es l'
variable {st hs}
theorem mt_star {e : α} {es : List α} {l : List UInt8} (h : st e = true) : Mt st hs (e :: es) l ↔ ∃ k, k ≤ l.length ∧ (l.take k).all (hs e) = true ∧ Mt st hs es (l.drop k) := by
  rw [Mt, if_pos h]
theorem mt_one {e : α} {es : List α} {l : List UInt8} (h : st e = false) : Mt st hs (e :: es) l ↔ ∃ c l', l = c :: l' ∧ hs e c = true ∧ Mt st hs es l' := by
  rw [Mt, if_neg (by simp [h])]
theorem mt_append {es fs : List α} : ∀ {l : List UInt8}, Mt st hs (es ++ fs) l ↔ ∃ k, k ≤ l.length ∧ Mt st hs es (l.take k) ∧ Mt st hs fs (l.drop k) := by
  induction es with
  | nil =>
    intro l
    constructor
    · intro h; exact ⟨0, Nat.zero_le _, rfl, h⟩
    · rintro ⟨k, hk, h1, h2⟩
      have : k = 0 := by
        have := congrArg List.length (show l.take k = [] from h1)
        rw [List.length_take] at this
        simp at this
        rcases this with h | h
        · exact h
        · subst h; simpa using hk
      subst this; simpa using h2
  | cons e es ih =>
    intro l
    rw [List.cons_append]
    cases he : st e with
    | true =>
      rw [mt_star he]
      constructor
      · rintro ⟨k, hk, h1, h2⟩
        obtain ⟨j, hj, h3, h4⟩ := ih.1 h2
        rw [List.length_drop] at hj
        refine ⟨k + j, by omega, (mt_star he).2 ⟨k, by rw [List.length_take]; omega, ?_, ?_⟩, ?_⟩
        · rw [List.take_take, show min k (k + j) = k by omega]; exact h1
        · rw [List.drop_take, show k + j - k = j by omega]; exact h3
        · rw [← List.drop_drop]; exact h4
      · rintro ⟨m, hm, h1, h2⟩
        obtain ⟨k, hk, h3, h4⟩ := (mt_star he).1 h1
        rw [List.length_take] at hk
        refine ⟨k, by omega, ?_, ih.2 ⟨m - k, by rw [List.length_drop]; omega, ?_, ?_⟩⟩
        · rw [List.take_take, show min k m = k by omega] at h3; exact h3
        · rw [List.drop_take] at h4; exact h4
        · rw [List.drop_drop, show k + (m - k) = m by omega]; exact h2
    | false =>
      rw [mt_one he]
      constructor
      · rintro ⟨c, l', rfl, h1, h2⟩
        obtain ⟨j, hj, h3, h4⟩ := ih.1 h2
        exact ⟨j + 1, by simp; omega, (mt_one he).2 ⟨c, l'.take j, by simp, h1, h3⟩, by simpa using h4⟩
      · rintro ⟨m, hm, h1, h2⟩
        obtain ⟨c, l', h3, h4, h5⟩ := (mt_one he).1 h1
        cases l with
        | nil => simp at h3
        | cons d l =>
          cases m with
          | zero => simp at h3
          | succ m =>
            simp only [List.take_succ_cons, List.cons.injEq] at h3
            obtain ⟨rfl, rfl⟩ := h3
            exact ⟨d, l, rfl, h4, ih.2 ⟨m, by simpa using hm, h5, by simpa using h2⟩⟩
/-- Behind one element more. -/
theorem mt_snoc_star {e : α} {es : List α} {l : List UInt8} (h : st e = true) : Mt st hs (es ++ [e]) l ↔ ∃ k, k ≤ l.length ∧ Mt st hs es (l.take k) ∧ (l.drop k).all (hs e) = true := by
  rw [mt_append]
  constructor
  · rintro ⟨k, hk, h1, h2⟩
    obtain ⟨j, hj, h3, h4⟩ := (mt_star h).1 h2
    refine ⟨k, hk, h1, ?_⟩
    have h5 : (l.drop k).drop j = [] := h4
    have h6 : (l.drop k).take j = l.drop k := by
      have := List.take_append_drop j (l.drop k)
      rw [h5, List.append_nil] at this; exact this
    rw [h6] at h3; exact h3
  · rintro ⟨k, hk, h1, h2⟩
    exact ⟨k, hk, h1, (mt_star h).2 ⟨(l.drop k).length, Nat.le_refl _, by rw [List.take_length]; exact h2, by rw [List.drop_length]; rfl⟩⟩
theorem mt_snoc_one {e : α} {es : List α} {l : List UInt8} (h : st e = false) : Mt st hs (es ++ [e]) l ↔ ∃ c l', l = l' ++ [c] ∧ hs e c = true ∧ Mt st hs es l' := by
  rw [mt_append]
  constructor
  · rintro ⟨k, hk, h1, h2⟩
    obtain ⟨c, l', h3, h4, h5⟩ := (mt_one h).1 h2
    have h5' : l' = [] := h5
    subst h5'
    exact ⟨c, l.take k, by rw [← h3]; exact (List.take_append_drop k l).symm, h4, h1⟩
  · rintro ⟨c, l', rfl, h1, h2⟩
    exact ⟨l'.length, by simp, by simpa using h2, (mt_one h).2 ⟨c, [], by simp, h1, rfl⟩⟩
/-- Two lists of elements that are alike match alike. -/
theorem mt_congr {β : Type} {st' : β → Bool} {hs' : β → UInt8 → Bool} {p : UInt8 → Bool} : ∀ {es : List α} {fs : List β} {l : List UInt8}, es.length = fs.length → (∀ (i : Nat) (e : α) (f : β), es[i]? = some e → fs[i]? = some f → st e = st' f ∧ ∀ c, p c = true → hs e c = hs' f c) → l.all p = true → (Mt st hs es l ↔ Mt st' hs' fs l) := by
  intro es
  induction es with
  | nil =>
    intro fs l hl _ _
    have : fs = [] := List.eq_nil_of_length_eq_zero hl.symm
    subst this; rfl
  | cons e es ih =>
    intro fs l hl h hp
    match fs, hl with
    | f :: fs, hl =>
      obtain ⟨h1, h2⟩ := h 0 e f rfl rfl
      have hih : ∀ {l : List UInt8}, l.all p = true → (Mt st hs es l ↔ Mt st' hs' fs l) := fun hp => ih (by simpa using hl) (fun i e f he hf => h (i + 1) e f (by simpa using he) (by simpa using hf)) hp
      have hall : ∀ l : List UInt8, l.all p = true → (l.all (hs e) = l.all (hs' f)) := fun l hl => by
        rw [Bool.eq_iff_iff, List.all_eq_true, List.all_eq_true]
        have hl' := List.all_eq_true.1 hl
        exact ⟨fun h c hc => by rw [← h2 c (hl' c hc)]; exact h c hc, fun h c hc => by rw [h2 c (hl' c hc)]; exact h c hc⟩
      have hsub : ∀ k, (l.take k).all p = true ∧ (l.drop k).all p = true := fun k => by
        have := List.all_eq_true.1 hp
        exact ⟨List.all_eq_true.2 fun c hc => this c (List.mem_of_mem_take hc), List.all_eq_true.2 fun c hc => this c (List.mem_of_mem_drop hc)⟩
      cases he : st e with
      | true =>
        rw [mt_star he, mt_star (h1.symm.trans he)]
        constructor
        · rintro ⟨k, hk, h3, h4⟩
          exact ⟨k, hk, by rw [← hall _ (hsub k).1]; exact h3, (hih (hsub k).2).1 h4⟩
        · rintro ⟨k, hk, h3, h4⟩
          exact ⟨k, hk, by rw [hall _ (hsub k).1]; exact h3, (hih (hsub k).2).2 h4⟩
      | false =>
        rw [mt_one he, mt_one (h1.symm.trans he)]
        constructor
        · rintro ⟨c, l', rfl, h3, h4⟩
          simp only [List.all_cons, Bool.and_eq_true] at hp
          exact ⟨c, l', rfl, by rw [← h2 c hp.1]; exact h3, (hih hp.2).1 h4⟩
        · rintro ⟨c, l', rfl, h3, h4⟩
          simp only [List.all_cons, Bool.and_eq_true] at hp
          exact ⟨c, l', rfl, by rw [h2 c hp.1]; exact h3, (hih hp.2).2 h4⟩
/-- What matches is made of characters that some element stands for. -/
theorem mt_all {p : UInt8 → Bool} : ∀ {es : List α} {l : List UInt8}, (∀ e ∈ es, ∀ c, hs e c = true → p c = true) → Mt st hs es l → l.all p = true := by
  intro es
  induction es with
  | nil => intro l _ h; have : l = [] := h; subst this; rfl
  | cons e es ih =>
    intro l h hm
    have ih' : ∀ {l : List UInt8}, Mt st hs es l → l.all p = true := fun hm => ih (fun e he => h e (by simp [he])) hm
    cases he : st e with
    | true =>
      obtain ⟨k, hk, h1, h2⟩ := (mt_star he).1 hm
      rw [← List.take_append_drop k l, List.all_append, Bool.and_eq_true]
      exact ⟨List.all_eq_true.2 fun c hc => h e (by simp) c (List.all_eq_true.1 h1 c hc), ih' h2⟩
    | false =>
      obtain ⟨c, l', rfl, h1, h2⟩ := (mt_one he).1 hm
      rw [List.all_cons, Bool.and_eq_true]
      exact ⟨h e (by simp) c h1, ih' h2⟩
end
end Go.Proofs.YtddiecdoaggaaaaGreatDoor
