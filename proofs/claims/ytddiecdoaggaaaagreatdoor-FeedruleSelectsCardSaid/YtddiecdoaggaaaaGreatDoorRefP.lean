/- Plain words, no program: the tables of the reference's elements, its reckoning of a match, and its cutting of a list. -/
import Derived.Test.YtddiecdoaggaaaaGreatDoorWildN
import Derived.Test.YtddiecdoaggaaaaGreatDoorWildL
import Derived.Test.YtddiecdoaggaaaaGreatDoorWildV
namespace Go.Proofs.YtddiecdoaggaaaaGreatDoor

/-! Tables of truth values. -/
def tbl (n : Nat) (f : Nat → Bool) : List Value := (List.range n).map fun k => .bool (f k)
theorem tbl_length (n : Nat) (f : Nat → Bool) : (tbl n f).length = n := by simp [tbl]
theorem tbl_get {n k : Nat} {f : Nat → Bool} (h : k < n) : (tbl n f)[k]? = some (.bool (f k)) := by simp [tbl, h]
theorem tbl_congr {n : Nat} {f g : Nat → Bool} (h : ∀ k, k < n → f k = g k) : tbl n f = tbl n g := List.map_congr_left fun k hk => by rw [h k (by simpa using hk)]
theorem tbl_set {n : Nat} {f : Nat → Bool} (i : Nat) (b : Bool) : (tbl n f).set i (.bool b) = tbl n (fun k => if k = i then b else f k) := by
  apply List.ext_getElem
  · simp [tbl]
  · intro k h1 h2
    simp only [tbl, List.getElem_set, List.getElem_map, List.getElem_range]
    by_cases h : i = k
    · subst h; simp
    · rw [if_neg h, if_neg (Ne.symm h)]
theorem tbl_false (n : Nat) : List.replicate n (Value.bool false) = tbl n (fun _ => false) := by
  apply List.ext_getElem
  · simp [tbl]
  · intro k h1 h2; simp [tbl]
theorem tbl_one (n : Nat) (f : Nat → Bool) : (tbl n f).all (·.oneCell') = true := by
  rw [List.all_eq_true]; intro x hx
  obtain ⟨k, _, rfl⟩ := List.mem_map.1 hx
  rfl

/-! The sets of the reference. -/
def inSet (set : ByteArray) (k : Nat) : Bool := set.data.toList.any (fun c => c.toNat == k)
theorem inSet_app (a b : ByteArray) (k : Nat) : inSet (a ++ b) k = (inSet a k || inSet b k) := by
  unfold inSet; rw [ByteArray.data_append, Array.toList_append, List.any_append]
theorem inSet_one (c : UInt8) (k : Nat) : inSet ⟨#[c]⟩ k = (c.toNat == k) := by simp [inSet]
theorem inSet_empty (k : Nat) : inSet ByteArray.empty k = false := rfl
theorem any_toNat {l : List UInt8} (c : UInt8) : l.any (fun d => d.toNat == c.toNat) = decide (c ∈ l) := by
  rw [Bool.eq_iff_iff, List.any_eq_true, decide_eq_true_iff]
  constructor
  · rintro ⟨x, hx, h⟩
    have : x = c := UInt8.toNat_inj.1 (by simpa using h)
    exact this ▸ hx
  · intro h; exact ⟨c, h, by simp⟩
theorem indexByte_iff {l : List UInt8} {c : UInt8} : decide (0 ≤ Lib.indexByte l c) = l.any (fun d => d.toNat == c.toNat) := by
  rw [any_toNat, decide_eq_decide]
  refine ⟨indexByte_mem, fun h => ?_⟩
  induction l with
  | nil => cases h
  | cons b l ih =>
    unfold Lib.indexByte
    split
    · omega
    · rename_i e
      have hb : c ≠ b := fun e2 => e (by subst e2; simp)
      have := ih (by rcases List.mem_cons.1 h with h | h; · exact absurd h hb
                     · exact h)
      split
      · rename_i e2; simp at e2; omega
      · omega
def rangeTo (a n : Nat) : List UInt8 := (List.range n).map fun i => UInt8.ofNat (a + i)
theorem between_letters : ∀ p q : Fin 26, p.val ≤ q.val → (charsB.data.toList.drop (charIdx (UInt8.ofNat (97 + p.val))).toNat).take ((charIdx (UInt8.ofNat (97 + q.val)) + 1).toNat - (charIdx (UInt8.ofNat (97 + p.val))).toNat) = rangeTo (97 + p.val) (q.val + 1 - p.val) := by decide +kernel
theorem between_digits : ∀ p q : Fin 10, p.val ≤ q.val → (charsB.data.toList.drop (charIdx (UInt8.ofNat (48 + p.val))).toNat).take ((charIdx (UInt8.ofNat (48 + q.val)) + 1).toNat - (charIdx (UInt8.ofNat (48 + p.val))).toNat) = rangeTo (48 + p.val) (q.val + 1 - p.val) := by decide +kernel
theorem rangeTo_any {a n k : Nat} (h : a + n ≤ 256) : (rangeTo a n).any (fun c => c.toNat == k) = (decide (a ≤ k) && decide (k < a + n)) := by
  rw [Bool.eq_iff_iff, List.any_eq_true, Bool.and_eq_true, decide_eq_true_iff, decide_eq_true_iff]
  constructor
  · rintro ⟨x, hx, hk⟩
    obtain ⟨i, hi, rfl⟩ := List.mem_map.1 hx
    have hi' : i < n := by simpa using hi
    have : (UInt8.ofNat (a + i)).toNat = a + i := by simp; omega
    rw [this] at hk
    have : a + i = k := by simpa using hk
    omega
  · rintro ⟨h1, h2⟩
    refine ⟨UInt8.ofNat (a + (k - a)), List.mem_map.2 ⟨k - a, by simp; omega, rfl⟩, ?_⟩
    simp; omega
theorem between_data (a b : UInt8) : (betweenB a b).data.toList = (charsB.data.toList.drop (charIdx a).toNat).take ((charIdx b + 1).toNat - (charIdx a).toNat) := by
  unfold betweenB
  rw [ByteArray.data_extract, Array.toList_extract, List.extract_eq_take_drop]
theorem inSet_between {a b : UInt8} (h : 0 < sortN a.toNat) (hs : sortN a.toNat = sortN b.toNat) (hab : a.toNat ≤ b.toNat) (k : Nat) : inSet (betweenB a b) k = (decide (a.toNat ≤ k) && decide (k ≤ b.toNat)) := by
  have ha : UInt8.ofNat a.toNat = a := by simp
  have hb : UInt8.ofNat b.toNat = b := by simp
  unfold inSet
  rw [between_data]
  unfold sortN at h hs
  by_cases h1 : 97 ≤ a.toNat ∧ a.toNat ≤ 122
  · rw [if_pos h1] at hs
    have h2 : 97 ≤ b.toNat ∧ b.toNat ≤ 122 := by
      by_cases h2 : 97 ≤ b.toNat ∧ b.toNat ≤ 122
      · exact h2
      · rw [if_neg h2] at hs; split at hs <;> omega
    have := between_letters ⟨a.toNat - 97, by omega⟩ ⟨b.toNat - 97, by omega⟩ (by dsimp only; omega)
    dsimp only at this
    rw [show 97 + (a.toNat - 97) = a.toNat by omega, show 97 + (b.toNat - 97) = b.toNat by omega, ha, hb] at this
    rw [this, rangeTo_any (by omega)]
    congr 1
    rw [decide_eq_decide]; omega
  · rw [if_neg h1] at h hs
    by_cases h3 : 48 ≤ a.toNat ∧ a.toNat ≤ 57
    · rw [if_pos h3] at hs
      have h2 : 48 ≤ b.toNat ∧ b.toNat ≤ 57 := by
        by_cases h2 : 97 ≤ b.toNat ∧ b.toNat ≤ 122
        · rw [if_pos h2] at hs; omega
        · rw [if_neg h2] at hs
          by_cases h4 : 48 ≤ b.toNat ∧ b.toNat ≤ 57
          · exact h4
          · rw [if_neg h4] at hs; omega
      have := between_digits ⟨a.toNat - 48, by omega⟩ ⟨b.toNat - 48, by omega⟩ (by dsimp only; omega)
      dsimp only at this
      rw [show 48 + (a.toNat - 48) = a.toNat by omega, show 48 + (b.toNat - 48) = b.toNat by omega, ha, hb] at this
      rw [this, rangeTo_any (by omega)]
      congr 1
      rw [decide_eq_decide]; omega
    · rw [if_neg h3] at h; omega

/-- For which characters an element stands, as the reference's table says. -/
def tabE (e : Elem) (k : Nat) : Bool := !e.repeats && e.has (UInt8.ofNat k)
def refC (e : Elem) : List Value := .bool e.repeats :: tbl 128 (tabE e)
theorem refC_length (e : Elem) : (refC e).length = 129 := by simp [refC, tbl_length]
theorem refC_one (e : Elem) : (refC e).all (·.oneCell') = true := by
  unfold refC; rw [List.all_cons, tbl_one]; rfl
/-- An element stands for name characters alone. -/
def okE (e : Elem) : Prop := ∀ c, e.has c = true → namedB c = true
theorem ok_one {c : UInt8} (h : namedB c = true) : okE (.one c) := fun d hd => by
  have : c = d := UInt8.toNat_inj.1 (by simpa [Elem.has] using hd)
  exact this ▸ h
theorem ok_cls (set : ByteArray) (inv : Bool) : okE (.cls set inv) := fun d hd => by
  simp only [Elem.has, Bool.and_eq_true] at hd; exact hd.1
theorem ok_star : okE .star := fun d hd => hd
theorem ofNat_small {k : Nat} (h : k < 128) : (UInt8.ofNat k).toNat = k := by simp; omega
theorem ref_star : refC .star = .bool true :: tbl 128 (fun _ => false) := congrArg (List.cons _) (tbl_congr fun k _ => rfl)
theorem ref_one (c : UInt8) : refC (.one c) = .bool false :: tbl 128 (fun k => if k = c.toNat then true else false) := by
  refine congrArg (List.cons _) (tbl_congr fun k hk => ?_)
  simp only [tabE, Elem.repeats, Elem.has, ofNat_small hk, Bool.not_false, Bool.true_and]
  by_cases h : k = c.toNat
  · subst h; simp
  · rw [if_neg h]; simpa using Ne.symm h
theorem ref_any : refC (.cls ByteArray.empty true) = .bool false :: tbl 128 (fun k => namedB (UInt8.ofNat k)) := by
  refine congrArg (List.cons _) (tbl_congr fun k hk => ?_)
  simp only [tabE, Elem.repeats, Elem.has, indexByte_iff, Bool.not_false, Bool.true_and]
  simp
theorem ref_cls {set : ByteArray} (h : ∀ c, c ∈ set.data.toList → namedB c = true) : refC (.cls set false) = .bool false :: tbl 128 (inSet set) := by
  refine congrArg (List.cons _) (tbl_congr fun k hk => ?_)
  simp only [tabE, Elem.repeats, Elem.has, indexByte_iff, Bool.not_false, Bool.true_and, ofNat_small hk, Bool.bne_false]
  show _ = inSet set k
  cases hs : inSet set k with
  | false =>
    have : (set.data.toList.any fun d => d.toNat == k) = false := hs
    rw [this, Bool.and_false]
  | true =>
    have h2 : (set.data.toList.any fun d => d.toNat == k) = true := hs
    rw [h2, Bool.and_true]
    obtain ⟨x, hx, hk2⟩ := List.any_eq_true.1 h2
    have : x = UInt8.ofNat k := UInt8.toNat_inj.1 (by rw [ofNat_small hk]; simpa using hk2)
    exact this ▸ h x hx
theorem ref_inv (set : ByteArray) : refC (.cls set true) = .bool false :: tbl 128 (fun k => namedB (UInt8.ofNat k) && !inSet set k) := by
  refine congrArg (List.cons _) (tbl_congr fun k hk => ?_)
  simp only [tabE, Elem.repeats, Elem.has, indexByte_iff, Bool.not_false, Bool.true_and, ofNat_small hk]
  show (_ && (inSet set k != true)) = _
  rw [Bool.bne_true]

/-! The reference's rows: which beginnings of a name the elements so far match. -/
def nx (e : Elem) (name : List UInt8) (can : Nat → Bool) : Nat → Bool
  | 0 => e.repeats && can 0
  | i + 1 => if e.repeats then can (i + 1) || nx e name can i else can i && tabE e (byteAt name i).toNat
def rowsF (els : List Elem) (name : List UInt8) : Nat → Bool := els.foldl (fun can e => nx e name can) (fun i => decide (i = 0))
theorem rowsF_snoc (els : List Elem) (e : Elem) (name : List UInt8) : rowsF (els ++ [e]) name = nx e name (rowsF els name) := by
  unfold rowsF; rw [List.foldl_append]; rfl
def refMatch (els : List Elem) (name : List UInt8) : Bool := name.all namedB && rowsF els name name.length
theorem nx_star {e : Elem} (he : e.repeats = true) {name : List UInt8} {can : Nat → Bool} : ∀ i, nx e name can i = true ↔ ∃ k, k ≤ i ∧ can k = true := by
  intro i
  induction i with
  | zero =>
    rw [nx, he, Bool.true_and]
    exact ⟨fun h => ⟨0, Nat.le_refl _, h⟩, fun ⟨k, hk, h⟩ => by rw [show k = 0 by omega] at h; exact h⟩
  | succ i ih =>
    rw [nx, if_pos he, Bool.or_eq_true, ih]
    constructor
    · rintro (h | ⟨k, hk, h⟩)
      · exact ⟨i + 1, Nat.le_refl _, h⟩
      · exact ⟨k, by omega, h⟩
    · rintro ⟨k, hk, h⟩
      by_cases h1 : k = i + 1
      · subst h1; exact .inl h
      · exact .inr ⟨k, by omega, h⟩
theorem star_of {e : Elem} (he : e.repeats = true) : e = .star := by cases e <;> first | rfl | cases he
theorem rows_mt {name : List UInt8} (hn : name.all namedB = true) : ∀ (n : Nat) (els : List Elem), els.length = n → ∀ i, i ≤ name.length → (rowsF els name i = true ↔ MtE els (name.take i)) := by
  intro n
  induction n with
  | zero =>
    intro els hl i hi
    have : els = [] := List.eq_nil_of_length_eq_zero hl
    subst this
    show decide (i = 0) = true ↔ name.take i = []
    rw [decide_eq_true_iff]
    constructor
    · intro h; subst h; rfl
    · intro h
      have := congrArg List.length h
      rw [List.length_take] at this
      simp at this
      rcases this with h | h
      · exact h
      · subst h; simpa using hi
  | succ n ih =>
    intro els hl i hi
    obtain ⟨es, e, rfl⟩ : ∃ es e, els = es ++ [e] := by
      refine ⟨els.dropLast, els.getLast (by intro h; subst h; cases hl), (List.dropLast_concat_getLast _).symm⟩
    have hl' : es.length = n := by simpa using hl
    have hlt : (name.take i).length = i := by rw [List.length_take]; omega
    rw [rowsF_snoc]
    cases he : e.repeats with
    | true =>
      rw [nx_star he]
      refine Iff.trans ?_ (mt_snoc_star (st := Elem.repeats) (hs := Elem.has) he).symm
      constructor
      · rintro ⟨k, hk, h⟩
        refine ⟨k, by omega, ?_, ?_⟩
        · rw [List.take_take, Nat.min_eq_left hk]; exact (ih es hl' k (by omega)).1 h
        · have := star_of he
          subst this
          rw [List.all_eq_true]
          intro c hc
          exact List.all_eq_true.1 hn c (List.mem_of_mem_take (List.mem_of_mem_drop hc))
      · rintro ⟨k, hk, h1, _⟩
        rw [hlt] at hk
        rw [List.take_take, Nat.min_eq_left hk] at h1
        exact ⟨k, hk, (ih es hl' k (by omega)).2 h1⟩
    | false =>
      refine Iff.trans ?_ (mt_snoc_one (st := Elem.repeats) (hs := Elem.has) he).symm
      cases i with
      | zero =>
        rw [nx, he, Bool.false_and]
        constructor
        · intro h; cases h
        · rintro ⟨c, l', h, _⟩; simp at h
      | succ i =>
        have hlt2 : i < name.length := by omega
        have hsn : name.take (i + 1) = name.take i ++ [name[i]] := by rw [List.take_add_one]; simp [hlt2]
        have hb : byteAt name i = name[i] := by unfold byteAt; rw [List.getElem?_eq_getElem hlt2]; rfl
        rw [nx, if_neg (by simp [he]), hb, Bool.and_eq_true, ih es hl' i (by omega), hsn]
        have htab : tabE e name[i].toNat = e.has name[i] := by simp [tabE, he]
        rw [htab]
        constructor
        · rintro ⟨h1, h2⟩; exact ⟨_, _, rfl, h2, h1⟩
        · rintro ⟨c, l', h, h2, h3⟩
          have h4 := List.append_inj' h rfl
          have h5 : name[i] = c := by simpa using h4.2
          rw [← h5] at h2
          rw [← h4.1] at h3
          exact ⟨h3, h2⟩
theorem refMatch_eq {els : List Elem} (hok : ∀ e ∈ els, okE e) (name : List UInt8) : refMatch els name = matchP els name := by
  rw [Bool.eq_iff_iff, match_mt]
  unfold refMatch
  rw [Bool.and_eq_true]
  constructor
  · rintro ⟨h1, h2⟩
    have := (rows_mt h1 _ els rfl name.length (Nat.le_refl _)).1 h2
    rwa [List.take_length] at this
  · intro h
    have h1 : name.all namedB = true := mt_all (fun e he c hc => hok e he c hc) h
    refine ⟨h1, (rows_mt h1 _ els rfl name.length (Nat.le_refl _)).2 ?_⟩
    rwa [List.take_length]
theorem verdictP_nil (name : List UInt8) : verdictP [] name = 0 := rfl
theorem verdictP_snoc (items : List (Nat × List Elem)) (x : Nat × List Elem) (name : List UInt8) : verdictP (items ++ [x]) name = if matchP x.2 name = true then x.1 else verdictP items name := by
  unfold verdictP
  rw [List.reverse_append, List.reverse_cons, List.reverse_nil, List.nil_append, List.singleton_append, List.find?_cons]
  cases h : matchP x.2 name <;> simp

/-! The pieces of a list. -/
theorem index_comma_none : ∀ {l : List UInt8}, (∀ x ∈ l, x ≠ 44) → Lib.index l [44] = -1 := by
  intro l
  induction l with
  | nil => intro _; rfl
  | cons b l ih =>
    intro h
    have h1 : b ≠ 44 := h b (by simp)
    rw [Lib.index, if_neg (by simp [List.isPrefixOf]; exact fun e => h1 e.symm), ih (fun x hx => h x (by simp [hx]))]; rfl
theorem index_comma : ∀ {a b : List UInt8}, (∀ x ∈ a, x ≠ 44) → Lib.index (a ++ 44 :: b) [44] = (a.length : Int) := by
  intro a b
  induction a with
  | nil => intro _; rw [List.nil_append, Lib.index, if_pos (by simp [List.isPrefixOf])]; rfl
  | cons c a ih =>
    intro h
    have h1 : c ≠ 44 := h c (by simp)
    rw [List.cons_append, Lib.index, if_neg (by simp [List.isPrefixOf]; exact fun e => h1 e.symm), ih (fun x hx => h x (by simp [hx]))]
    rw [if_neg (by simp)]
    simp
theorem parts_none {l : List UInt8} (h : ∀ x ∈ l, x ≠ 44) : parts l = [l] := by
  unfold parts Lib.split
  rw [Lib.count_miss (index_comma_none h)]; rfl
theorem parts_comma {a b : List UInt8} (h : ∀ x ∈ a, x ≠ 44) : parts (a ++ 44 :: b) = a :: parts b := by
  have hi := index_comma (b := b) h
  unfold parts Lib.split
  have hd : (a ++ 44 :: b).drop (a.length + 1) = b := by
    rw [← List.drop_drop]; simp
  have hc := Lib.count_hit (by simp : ([44] : List UInt8) ≠ []) hi
  simp only [List.length_cons, List.length_nil, Nat.zero_add] at hc
  rw [hd] at hc
  rw [hc, Nat.add_comm, Lib.splitK, if_neg (by rw [hi]; simp), hi]
  simp only [List.length_cons, List.length_nil, Nat.zero_add, Nat.add_zero, Int.toNat_natCast]
  rw [hd]
  simp
theorem comp_ok {l : List UInt8} : ∀ (f i : Nat) (els els' : List Elem), (∀ e ∈ els, okE e) → comp l f i els = .inl els' → ∀ e ∈ els', okE e := by
  intro f
  induction f with
  | zero => intro i els els' h hc; rw [comp] at hc; cases hc; exact h
  | succ f ih =>
    intro i els els' h hc
    have app : ∀ x, okE x → ∀ e ∈ els ++ [x], okE e := fun x hx e he => by
      rcases List.mem_append.1 he with he | he
      · exact h e he
      · rw [List.mem_singleton] at he; exact he ▸ hx
    rw [comp] at hc
    split at hc
    · split at hc
      · rename_i hN; exact ih _ _ _ (app _ (ok_one hN)) hc
      · split at hc
        · exact ih _ _ _ (app _ (ok_cls _ _)) hc
        · split at hc
          · exact ih _ _ _ (app _ ok_star) hc
          · split at hc
            · split at hc
              · cases hc
              · exact ih _ _ _ (app _ (ok_cls _ _)) hc
            · cases hc
    · cases hc; exact h
theorem compP_ok {l : List UInt8} {els : List Elem} (h : compP l = .inl els) : ∀ e ∈ els, okE e := by
  unfold compP at h
  split at h
  · cases h
  · split at h
    · cases h
    · exact comp_ok _ _ _ _ (by simp) h
theorem parseGo_ok : ∀ (ps : List (List UInt8)) (items items' : List (Nat × List Elem)), (∀ x ∈ items, ∀ e ∈ x.2, okE e) → parseGo ps items = .inl items' → ∀ x ∈ items', ∀ e ∈ x.2, okE e := by
  intro ps
  induction ps with
  | nil => intro items items' h hp; rw [parseGo] at hp; cases hp; exact h
  | cons p ps ih =>
    intro items items' h hp
    rw [parseGo] at hp
    split at hp
    · cases hp
    · split at hp
      · cases hp
      · rename_i els hc
        refine ih _ _ (fun x hx => ?_) hp
        rcases List.mem_append.1 hx with hx | hx
        · exact h x hx
        · rw [List.mem_singleton] at hx; subst hx; exact compP_ok hc
theorem parseP_ok {l : List UInt8} {items : List (Nat × List Elem)} (h : parseP l = .inl items) : ∀ x ∈ items, ∀ e ∈ x.2, okE e := by
  unfold parseP at h
  split at h
  · cases h
  · exact parseGo_ok _ _ _ (by simp) h
end Go.Proofs.YtddiecdoaggaaaaGreatDoor
