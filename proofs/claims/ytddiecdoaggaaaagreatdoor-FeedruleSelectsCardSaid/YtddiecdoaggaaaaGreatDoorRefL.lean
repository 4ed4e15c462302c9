/- The walk of the reference's ParseList. -/
import Derived.Test.YtddiecdoaggaaaaGreatDoorRefD
import Derived.Test.YtddiecdoaggaaaaGreatDoorKG
namespace Go.Proofs.YtddiecdoaggaaaaGreatDoor
open Go.RowKit

theorem Sat.fuse {r w : World} {O : List Own} {o1 o2 o' : Own} (h : Sat r (o1 :: o2 :: O) w) (hp : o1.p w → o2.p w → o'.p w) (hf : ∀ b, o'.foot b → o1.foot b ∨ o2.foot b) (h1 : o1.old = false) (h2 : o2.old = false) (h' : o'.old = false) : Sat r (o' :: O) w := by
  have hd := h.disj
  rw [List.pairwise_cons, List.pairwise_cons] at hd
  have a1 := h.all o1 (by simp)
  have a2 := h.all o2 (by simp)
  refine ⟨h.os, h.tape, h.output, h.size, fun k hk hh => h.agree k hk fun o ho hold => ?_, fun o ho => ?_, List.Pairwise.cons (fun o ho k hk => ?_) hd.2.2⟩
  · rcases List.mem_cons.1 ho with rfl | ho
    · rw [h1] at hold; cases hold
    · rcases List.mem_cons.1 ho with rfl | ho
      · rw [h2] at hold; cases hold
      · exact hh o (List.mem_cons_of_mem _ ho) hold
  · rcases List.mem_cons.1 ho with rfl | ho
    · refine ⟨hp a1.1 a2.1, fun b hb => ?_⟩
      rcases hf b hb with hb | hb
      · exact ⟨(a1.2 b hb).1, fun _ => (a1.2 b hb).2 h1⟩
      · exact ⟨(a2.2 b hb).1, fun _ => (a2.2 b hb).2 h2⟩
    · exact h.all o (by simp [ho])
  · rcases hf k hk.1 with hb | hb
    · exact hd.1 o (by simp [ho]) k ⟨hb, hk.2⟩
    · exact hd.2.1 o ho k ⟨hb, hk.2⟩
theorem k_fuse {N : Nat} {env : Env} {r : World} {O : List Own} {F : Act → World → Prop} {o1 o2 : Own} (o' : Own) (hp : ∀ w, o1.p w → o2.p w → o'.p w) (hf : ∀ b, o'.foot b → o1.foot b ∨ o2.foot b) (h1 : o1.old = false) (h2 : o2.old = false) (h' : o'.old = false) (h : K N env r (o' :: O) F) : K N env r (o1 :: o2 :: O) F := fun w hw => h w (hw.fuse (hp w) hf h1 h2 h')
/-- Parts of the reference's elements, each in a block of its own. -/
def relems (l : List (Value × List Elem)) : Own := ⟨fun k => ∃ x ∈ l, x.1.ownBlock = some k, false, fun w => ∀ x ∈ l, RElemsAt w x.1 x.2 ∧ (∀ b, x.1.ownBlock = some b → b < w.heap.size), fun w w' h hp x hx => by
  obtain ⟨⟨ea, cap, hv, hc⟩, hb⟩ := hp x hx
  have hlt : ∀ b, x.1.ownBlock = some b → b < w'.heap.size := fun b e => by
    have := h b ⟨x, hx, e⟩
    have h2 := hb b e
    rcases Nat.lt_or_ge b w'.heap.size with h3 | h3
    · exact h3
    · rw [Array.getElem?_eq_none h3, Array.getElem?_eq_getElem h2] at this; cases this
  refine ⟨⟨ea, cap, hv, fun i c hi => ?_⟩, hlt⟩
  obtain ⟨b, o, h1, h2⟩ := hc i c hi
  refine ⟨b, o, h1, fun j u hu => ?_⟩
  have := h2 j u hu
  have e := h b ⟨x, hx, by rw [hv, h1]; rfl⟩
  unfold World.cell? at this ⊢
  rw [e]; exact this⟩
theorem k_norelems {N : Nat} {env : Env} {r : World} {O : List Own} {F : Act → World → Prop} (h : K N env r (relems [] :: O) F) : K N env r O F := fun w hw =>
  h w (hw.add (Below.refl _ _) (by intro x hx; cases hx) (fun b ⟨x, hx, _⟩ => by cases hx) rfl)
theorem getElem?_flat {α : Type} {f : α → List Value} {n : Nat} : ∀ (l : List α) (i j : Nat) (a : α) (u : Value), (∀ x ∈ l, (f x).length = n) → l[i]? = some a → (f a)[j]? = some u → (l.flatMap f)[i * n + j]? = some u := by
  intro l
  induction l with
  | nil => intro i j a u _ h; cases h
  | cons x l ih =>
    intro i j a u hn hi hj
    rw [List.flatMap_cons]
    cases i with
    | zero =>
      simp at hi; subst hi
      rw [List.getElem?_append_left (by rw [Nat.zero_mul, Nat.zero_add]; exact (List.getElem?_eq_some_iff.1 hj).1), Nat.zero_mul, Nat.zero_add]; exact hj
    | succ i =>
      have hx := hn x (by simp)
      rw [List.getElem?_append_right (by rw [hx, Nat.succ_mul]; omega), hx, show (i + 1) * n + j - n = i * n + j by rw [Nat.succ_mul]; omega]
      exact ih i j a u (fun y hy => hn y (by simp [hy])) (by simpa using hi) hj
theorem rowAt_of_own {w : World} {base : Nat} {e : TypeId} {n : Nat} {v : Value} {α : Type} {f : α → List Value} {l : List α} (hn : ∀ x ∈ l, (f x).length = n) (h : w.ownsRow base e n v l.length (l.flatMap f)) : RowAt w v n (l.map f) := by
  have h' := h
  obtain ⟨hl, h⟩ := h
  rcases h with ⟨rfl, h0⟩ | ⟨g, cap, cur, rfl, _⟩
  · have : l = [] := List.eq_nil_of_length_eq_zero h0
    subst this
    exact ⟨none, 0, rfl, by simp⟩
  · refine ⟨some ⟨g, 0, none⟩, cap, by rw [List.length_map], fun i c hi => ⟨g, 0, rfl, fun j u hu => ?_⟩⟩
    rw [List.getElem?_map] at hi
    cases hli : l[i]? with
    | none => rw [hli] at hi; cases hi
    | some a =>
      rw [hli] at hi
      simp only [Option.map_some, Option.some.injEq] at hi
      subst hi
      have := h'.cells (g := g) rfl (i * n + j) u (getElem?_flat l i j a u hn hli hu)
      rw [addr_add, ← Nat.add_assoc] at this
      exact this
theorem relems_of_row {w : World} {base : Nat} {v : Value} {els : List Elem} (h : w.ownsRow base 139 129 v els.length (els.flatMap refC)) : RElemsAt w v els := rowAt_of_own (fun x _ => refC_length x) h
theorem k_addrelems {N : Nat} {env : Env} {r : World} {O : List Own} {F : Act → World → Prop} {v : Value} {els : List Elem} {l : List (Value × List Elem)} (h : K N env r (relems (l ++ [(v, els)]) :: O) F) : K N env r (row false v els.length (els.flatMap refC) 139 129 :: relems l :: O) F :=
  k_fuse (relems (l ++ [(v, els)])) (fun w h1 h2 x hx => by
    rcases List.mem_append.1 hx with hx | hx
    · exact h2 x hx
    · rw [List.mem_singleton] at hx; subst hx
      exact ⟨relems_of_row (base := 0) h1, fun b hb => own_lt (base := 0) h1 b hb⟩) (fun b ⟨x, hx, hb⟩ => by
    rcases List.mem_append.1 hx with hx | hx
    · exact .inr ⟨x, hx, hb⟩
    · rw [List.mem_singleton] at hx; subst hx; exact .inl hb) rfl rfl rfl h
/-- An item's cells: x.2 is its text and its elements' slice. -/
def ritemC (x : (Nat × List Elem) × (ByteArray × Value)) : List Value := [.int .i64 x.1.1, .string x.2.1, x.2.2]
/-- The slice v holds the reference's items. -/
def RItemsAt (w : World) (v : Value) (items : List (Nat × List Elem)) : Prop := ∃ its : List ((Nat × List Elem) × (ByteArray × Value)), its.map (·.1) = items ∧ RowAt w v 3 (its.map ritemC) ∧ ∀ x ∈ its, RElemsAt w x.2.2 x.1.2
theorem RItemsAt.ext {w w' : World} {v : Value} {items : List (Nat × List Elem)} (h : RItemsAt w v items) (hb : Below w.heap.size w w') : RItemsAt w' v items := by
  obtain ⟨its, h1, h2, h3⟩ := h
  exact ⟨its, h1, h2.ext hb, fun x hx => (h3 x hx).ext hb⟩
theorem comp_pos {l : List UInt8} : ∀ (f i : Nat) (els : List Elem) {k c : Nat}, comp l f i els = .inr (k, c) → k < l.length := by
  intro f
  induction f with
  | zero => intro i els k c h; rw [comp] at h; cases h
  | succ f ih =>
    intro i els k c h
    rw [comp] at h
    split at h
    · rename_i hi
      split at h
      · exact ih _ _ h
      · split at h
        · exact ih _ _ h
        · split at h
          · exact ih _ _ h
          · split at h
            · split at h
              · injection h with h; injection h with h1 h2; omega
              · exact ih _ _ h
            · injection h with h; injection h with h1 h2; omega
    · cases h
theorem compP_pos {l : List UInt8} {k c : Nat} (h : compP l = .inr (k, c)) : k ≤ l.length := by
  unfold compP at h
  split at h
  · injection h with h; injection h with h1 h2; omega
  · split at h
    · injection h with h; injection h with h1 h2; omega
    · exact Nat.le_of_lt (comp_pos _ _ _ h)
/-- A piece of a list. -/
def piece (l : List UInt8) (a b : Nat) : List UInt8 := (l.drop a).take (b - a)
theorem piece_none {l : List UInt8} {a b : Nat} (hab : a ≤ b) (hb : b ≤ l.length) (h : ∀ j, a ≤ j → j < b → (byteAt l j).toNat ≠ 44) : ∀ x ∈ piece l a b, x ≠ 44 := by
  intro x hx e
  subst e
  obtain ⟨i, hi, hx⟩ := List.getElem_of_mem hx
  unfold piece at hi hx
  rw [List.length_take, List.length_drop] at hi
  rw [List.getElem_take, List.getElem_drop] at hx
  refine h (a + i) (by omega) (by omega) ?_
  unfold byteAt
  rw [List.getElem?_eq_getElem (by omega)]
  show l[a+i].toNat = 44
  rw [hx]; rfl
theorem parts_at {l : List UInt8} {a b : Nat} (hab : a ≤ b) (hb : b < l.length) (h : ∀ j, a ≤ j → j < b → (byteAt l j).toNat ≠ 44) (hc : (byteAt l b).toNat = 44) : parts (l.drop a) = piece l a b :: parts (l.drop (b + 1)) := by
  have e : l.drop a = piece l a b ++ 44 :: l.drop (b + 1) := by
    have h0 : l[b] = 44 := UInt8.toNat_inj.1 (by unfold byteAt at hc; rw [List.getElem?_eq_getElem hb] at hc; exact hc)
    have : (44 : UInt8) :: l.drop (b + 1) = (l.drop a).drop (b - a) := by
      rw [List.drop_drop, show a + (b - a) = b by omega, List.drop_eq_getElem_cons hb, h0]
    rw [this]; unfold piece; rw [List.take_append_drop]
  rw [e, parts_comma (piece_none hab (by omega) h)]
theorem parts_end {l : List UInt8} {a : Nat} (ha : a ≤ l.length) (h : ∀ j, a ≤ j → j < l.length → (byteAt l j).toNat ≠ 44) : parts (l.drop a) = [piece l a l.length] := by
  have e : l.drop a = piece l a l.length := by unfold piece; rw [List.take_of_length_le (by rw [List.length_drop]; omega)]
  rw [e, parts_none (piece_none ha (Nat.le_refl _) h)]
theorem piece_data (s : ByteArray) (a b : Nat) : (s.extract a b).data.toList = piece s.data.toList a b := by
  unfold piece
  rw [ByteArray.data_extract, Array.toList_extract, List.extract_eq_take_drop]
theorem piece_drop (l : List UInt8) (a b d : Nat) : (piece l a b).drop d = piece l (a + d) b := by
  unfold piece
  rw [List.drop_take, List.drop_drop, show b - a - d = b - (a + d) by omega]
theorem partV_piece {l : List UInt8} {a b : Nat} (hb : b ≤ l.length) : partV (piece l a b) = if a < b ∧ (byteAt l a).toNat = 33 then (2, 1) else if a < b ∧ (byteAt l a).toNat = 64 then (3, 1) else (1, 0) := by
  unfold partV Lib.hasPrefix
  by_cases h : a < b
  · have hl : a < l.length := by omega
    have e : piece l a b = l[a] :: piece l (a + 1) b := by
      unfold piece
      rw [List.drop_eq_getElem_cons hl, show b - a = (b - (a + 1)) + 1 by omega, List.take_succ_cons]
    have hby : byteAt l a = l[a] := by unfold byteAt; rw [List.getElem?_eq_getElem hl]; rfl
    rw [e, hby]
    have h33 : (33 : UInt8) = l[a] ↔ l[a].toNat = 33 := ⟨fun h => by rw [← h]; rfl, fun h => UInt8.toNat_inj.1 h.symm⟩
    have h64 : (64 : UInt8) = l[a] ↔ l[a].toNat = 64 := ⟨fun h => by rw [← h]; rfl, fun h => UInt8.toNat_inj.1 h.symm⟩
    simp [List.isPrefixOf, h33, h64, h]
  · have e : piece l a b = [] := by unfold piece; rw [show b - a = 0 by omega, List.take_zero]
    rw [e]
    simp [h, List.isPrefixOf]
def RParsePost (s : ByteArray) (r : World) (e : Ending) (w' : World) : Prop := match parseP s.data.toList with
  | .inr c => (∃ i : Int, e = .returned (.tuple #[.slice none 0 0, .int .i64 i, .int .i64 c])) ∧ Below r.heap.size r w'
  | .inl items => ∃ v, e = .returned (.tuple #[v, .int .i64 0, .int .i64 0]) ∧ RItemsAt w' v items ∧ items.length ≤ 64 ∧ (∀ x ∈ items, x.2.length ≤ 80 ∧ ∀ y ∈ x.2, okE y) ∧ Below r.heap.size r w'
theorem rpp_err {s : ByteArray} {r w' : World} {e : Ending} {i : Int} {c : Nat} (h : parseP s.data.toList = .inr c) (he : e = .returned (.tuple #[.slice none 0 0, .int .i64 i, .int .i64 c])) (hb : Below r.heap.size r w') : RParsePost s r e w' := by
  unfold RParsePost; rw [h]; exact ⟨⟨i, he⟩, hb⟩
theorem rpp_ok {s : ByteArray} {r w' : World} {e : Ending} {items : List (Nat × List Elem)} {v : Value} (h : parseP s.data.toList = .inl items) (he : e = .returned (.tuple #[v, .int .i64 0, .int .i64 0])) (h1 : RItemsAt w' v items) (h2 : items.length ≤ 64) (h3 : ∀ x ∈ items, x.2.length ≤ 80) (hb : Below r.heap.size r w') : RParsePost s r e w' := by
  unfold RParsePost; rw [h]; exact ⟨v, he, h1, h2, fun x hx => ⟨h3 x hx, parseP_ok h x hx⟩, hb⟩
theorem ritem_len (x : (Nat × List Elem) × (ByteArray × Value)) : (ritemC x).length = 3 := rfl
theorem flat_item (its : List ((Nat × List Elem) × (ByteArray × Value))) (x : (Nat × List Elem) × (ByteArray × Value)) : (its ++ [x]).flatMap ritemC = its.flatMap ritemC ++ ritemC x := by
  rw [List.flatMap_append]; simp
set_option maxRecDepth 100000
attribute [local irreducible] K KS KLeft KRound J OV EV EU Blk wpList Code.wp bodyPost Exit.then Exit.inBlock Round Left Hid JS wpStill wpHeld Calls
attribute [local irreducible] namedB byteAt parts parseGo compP piece partV refC
set_option maxHeartbeats 4000000 in
theorem refParse_any (s : ByteArray) (r : World) (hs : s.size ≤ 1000000000000) : Calls Tryz.prog 20 #[.string s] r fun e w' => RParsePost s r e w' := by
  have hlen : s.data.toList.length = s.size := len_data s
  refine k_enter (N := 85) Tryz.func20 rfl rfl rfl ?_
  by_cases h0 : s = ⟨#[]⟩
  · have hz : s.size = 0 := by rw [h0]; rfl
    refine walkT ?_
    exact k_ret3 rfl rfl rfl rfl fun w hw => rpp_err (by unfold parseP; rw [if_pos (by omega)]) rfl (hw.below rfl)
  have h1 : s.size ≠ 0 := fun h => h0 (by
    cases s with | mk d => simp [ByteArray.size] at h; rw [h])
  have hp : parseP s.data.toList = parseGo (parts s.data.toList) [] := by unfold parseP; rw [if_neg (by omega)]
  generalize hG : parseGo (parts s.data.toList) [] = G at hp
  refine walkT ?_
  refine k_nilrow 112 3 ?_
  refine k_norelems ?_
  refine k_loop (σ := Nat × Nat × List ((Nat × List Elem) × (ByteArray × Value)) × Value × List (List UInt8)) (fun t => [(0, .string s), (5, t.2.2.2.1), (6, .int .i64 t.1), (7, .int .i64 t.2.1)]) (fun t => [relems (t.2.2.1.map fun x => (x.2.2, x.1.2)), row false t.2.2.2.1 t.2.2.1.length (t.2.2.1.flatMap ritemC) 112 3])
    (fun t => t.1 ≤ t.2.1 ∧ t.2.1 ≤ s.size + 1 ∧ (∀ j, t.1 ≤ j → j < t.2.1 → j < s.size → (byteAt s.data.toList j).toNat ≠ 44) ∧ parseGo t.2.2.2.2 (t.2.2.1.map (·.1)) = G ∧ (t.2.1 ≤ s.size → t.2.2.2.2 = parts (s.data.toList.drop t.1)) ∧ (s.size < t.2.1 → t.2.2.2.2 = []) ∧ t.2.2.1.length ≤ 64 ∧ ∀ x ∈ t.2.2.1, x.1.2.length ≤ 80) (fun t => s.size + 1 - t.2.1) (0, 0, [], .slice none 0 0, parts s.data.toList) (by repeat (first | exact Sub.nil | refine Sub.cons rfl ?_)) (by repeat (first | exact SubO.nil | refine SubO.keep ?_ | refine SubO.drop rfl ?_)) ⟨Nat.le_refl _, Nat.zero_le _, fun j _ h => by dsimp only at h; omega, hG, fun _ => by dsimp only; rw [List.drop_zero], fun h => by dsimp only at h; omega, Nat.zero_le _, by simp⟩ ?_
  rintro ⟨a, i, its, v, ps⟩ ⟨hai, hi, hno, hC, hps, hps', h64, h80⟩
  dsimp only at hai hi hno hC hps hps' h64 h80 ⊢
  refine k_rowslice 1 rfl ?_
  rintro ⟨ea, cap, rfl⟩
  by_cases hend : s.size < i
  · rw [hps' hend, parseGo] at hC
    rw [← hC] at hp
    refine walkT ?_
    exact k_ret3 rfl rfl rfl rfl fun w hw => rpp_ok hp rfl ⟨its, rfl, rowAt_of_own (fun x _ => ritem_len x) (hw.row 1 rfl), fun x hx => ((hw.get 0 rfl) (x.2.2, x.1.2) (List.mem_map.2 ⟨x, hx, rfl⟩)).1⟩ (by rw [List.length_map]; exact h64) (fun x hx => by obtain ⟨y, hy, rfl⟩ := List.mem_map.1 hx; exact h80 y hy) (hw.below rfl)
  replace hps := hps (by omega)
  by_cases hcont : i < s.size ∧ ¬ (byteAt s.data.toList i).toNat = 44
  · obtain ⟨hlt, h44⟩ := hcont
    refine walkT ?_
    refine k_round (a, i + 1, its, .slice ea its.length cap, ps) (by repeat (first | exact Sub.nil | refine Sub.cons rfl ?_)) (by repeat (first | exact SubO.nil | refine SubO.keep ?_ | refine SubO.drop rfl ?_)) ⟨by dsimp only; omega, by dsimp only; omega, fun j h1 h2 h3 => ?_, hC, fun _ => hps, fun h => by dsimp only at h; omega, h64, h80⟩ (by dsimp only; omega)
    dsimp only at h2
    by_cases hj : j = i
    · subst hj; exact h44
    · exact hno j h1 (by omega) h3
  obtain ⟨ps', hpp, hp1, hp2⟩ : ∃ ps', ps = piece s.data.toList a i :: ps' ∧ (i + 1 ≤ s.size → ps' = parts (s.data.toList.drop (i + 1))) ∧ (s.size < i + 1 → ps' = []) := by
    by_cases hlt : i < s.size
    · exact ⟨_, hps.trans (parts_at hai (by omega) (fun j h1 h2 => hno j h1 h2 (by omega)) (by omega)), fun _ => rfl, fun h => by omega⟩
    · have hi' : i = s.data.toList.length := by omega
      subst hi'
      exact ⟨[], hps.trans (parts_end hai (fun j h1 h2 => hno j h1 h2 (by omega))), fun h => by omega, fun _ => rfl⟩
  clear hps hps'
  subst hpp
  by_cases h64' : its.length = 64
  · rw [parse_full (by rw [List.length_map]; exact h64')] at hC
    rw [← hC] at hp
    by_cases hlt : i < s.size
    · have h44 : (byteAt s.data.toList i).toNat = 44 := by omega
      refine walkT ?_
      exact k_ret3 rfl rfl rfl rfl fun w hw => rpp_err hp rfl (hw.below rfl)
    · refine walkT ?_
      exact k_ret3 rfl rfl rfl rfl fun w hw => rpp_err hp rfl (hw.below rfl)
  apply k_join (σ := Unit) (fun _ => [(0, .string s), (5, .slice ea its.length cap), (6, .int .i64 a), (7, .int .i64 i)]) (fun _ => [relems (its.map fun x => (x.2.2, x.1.2)), row false (.slice ea its.length cap) its.length (its.flatMap ritemC) 112 3]) (fun _ => True)
  · intro key
    by_cases hlt : i < s.size
    · have h44 : (byteAt s.data.toList i).toNat = 44 := by omega
      refine walkT ?_
      exact key _ _ () (by repeat (first | exact Sub.nil | refine Sub.cons rfl ?_)) (by repeat (first | exact SubO.nil | refine SubO.keep ?_ | refine SubO.drop rfl ?_)) trivial
    · refine walkT ?_
      exact key _ _ () (by repeat (first | exact Sub.nil | refine Sub.cons rfl ?_)) (by repeat (first | exact SubO.nil | refine SubO.keep ?_ | refine SubO.drop rfl ?_)) trivial
  rintro ⟨⟩ -
  refine k_op rfl (fun _ _ => ov_build (vs := [.int .i64 1]) (cells := #[.int .i64 1, .string ⟨#[]⟩, .slice none 0 0]) rfl (by kernel_rfl)) ?_
  refine k_alloc (cs := [.int .i64 0, .string ⟨#[]⟩, .slice none 0 0]) rfl rfl ?_
  intro ib
  refine k_stE0 [.int .i64 1, .string ⟨#[]⟩, .slice none 0 0] rfl rfl rfl rfl rfl rfl (by rfl) ?_
  apply k_join (σ := Nat × Nat) (fun t => [(0, .string s), (5, .slice ea its.length cap), (6, .int .i64 a), (7, .int .i64 i), (8, .pointer (some ⟨ib, 0, none⟩)), (9, .int .i64 ((a + t.2 : Nat) : Int)), (65, .string (s.extract (a + t.2) i))]) (fun t => [bk false ib [.int .i64 t.1, .string ⟨#[]⟩, .slice none 0 0] 112, relems (its.map fun x => (x.2.2, x.1.2)), row false (.slice ea its.length cap) its.length (its.flatMap ritemC) 112 3]) (fun t => partV (piece s.data.toList a i) = (t.1, t.2) ∧ a + t.2 ≤ i)
  · intro key
    have hV := partV_piece (l := s.data.toList) (a := a) (b := i) (by omega)
    by_cases ha : a < i
    · by_cases h33 : (byteAt s.data.toList a).toNat = 33
      · rw [if_pos ⟨ha, h33⟩] at hV
        refine walkT ?_
        exact key _ _ (2, 1) (by repeat (first | exact Sub.nil | refine Sub.cons rfl ?_)) (by repeat (first | exact SubO.nil | refine SubO.keep ?_ | refine SubO.drop rfl ?_)) ⟨hV, by omega⟩
      · rw [if_neg (fun h => h33 h.2)] at hV
        by_cases h64 : (byteAt s.data.toList a).toNat = 64
        · rw [if_pos ⟨ha, h64⟩] at hV
          refine walkT ?_
          exact key _ _ (3, 1) (by repeat (first | exact Sub.nil | refine Sub.cons rfl ?_)) (by repeat (first | exact SubO.nil | refine SubO.keep ?_ | refine SubO.drop rfl ?_)) ⟨hV, by omega⟩
        · rw [if_neg (fun h => h64 h.2)] at hV
          refine walkT ?_
          exact key _ _ (1, 0) (by repeat (first | exact Sub.nil | refine Sub.cons rfl ?_)) (by repeat (first | exact SubO.nil | refine SubO.keep ?_ | refine SubO.drop rfl ?_)) ⟨hV, by omega⟩
    · rw [if_neg (fun h => ha h.1), if_neg (fun h => ha h.1)] at hV
      refine walkT ?_
      exact key _ _ (1, 0) (by repeat (first | exact Sub.nil | refine Sub.cons rfl ?_)) (by repeat (first | exact SubO.nil | refine SubO.keep ?_ | refine SubO.drop rfl ?_)) ⟨hV, by omega⟩
  rintro ⟨vd, d⟩ ⟨hV, had⟩
  dsimp only at hV had ⊢
  have hpd : (s.extract (a + d) i).data.toList = (piece s.data.toList a i).drop (partV (piece s.data.toList a i)).2 := by
    rw [piece_data, hV, piece_drop]
  have hpl : (piece s.data.toList (a + d) i).length ≤ s.size := by
    rw [← piece_data, len_data, ByteArray.size_extract]; omega
  refine k_call (by kernel_rfl) rfl rfl (fun w hw => refCompile_any (s.extract (a + d) i) w (by rw [ByteArray.size_extract]; omega)) ?_
  rintro w e w1 hw hE
  unfold RCompPost at hE
  rw [hpd] at hE
  cases hP : compP ((piece s.data.toList a i).drop (partV (piece s.data.toList a i)).2) with
  | inr kc =>
    obtain ⟨k, c⟩ := kc
    rw [hP] at hE
    dsimp only at hE
    obtain ⟨rfl, hb⟩ := hE
    have hc0 := compP_err hP
    have hk := compP_pos hP
    rw [← hpd, len_data, ByteArray.size_extract] at hk
    rw [parse_err (by rw [List.length_map]; exact h64') hP] at hC
    rw [← hC] at hp
    refine ⟨_, rfl, j_of_k (hw.ext hb) ?_⟩
    refine walkT ?_
    refine k_alloc (cs := [.string ⟨#[]⟩, .slice none 0 0]) rfl rfl ?_
    intro tb
    refine k_stE0 [.string ⟨#[]⟩, .slice none 0 0] rfl rfl rfl rfl rfl rfl (by rfl) ?_
    refine walkT ?_
    exact k_ret3 rfl rfl rfl rfl fun w hw => rpp_err hp rfl (hw.below rfl)
  | inl els =>
    rw [hP] at hE
    dsimp only at hE
    obtain ⟨ev, rfl, hl80, hS⟩ := hE
    rw [parse_on (by rw [List.length_map]; exact h64') hP] at hC
    rw [hV] at hC
    refine ⟨_, rfl, j_of_k (hw.join hS rfl) ?_⟩
    dsimp only [List.cons_append, List.nil_append]
    refine k_rowslice 0 rfl ?_
    rintro ⟨e1, c1, rfl⟩
    refine walkT ?_
    refine k_alloc (cs := [.string ⟨#[]⟩, .slice none 0 0]) rfl rfl ?_
    intro tb
    refine k_stE0 [.string (s.extract (a + d) i), .slice e1 els.length c1] rfl rfl rfl rfl rfl rfl (by rfl) ?_
    refine walkT ?_
    refine k_stE2 [.int .i64 vd, .string (s.extract (a + d) i), .slice e1 els.length c1] rfl rfl rfl rfl rfl rfl (by rfl) ?_
    refine walkT ?_
    refine k_app4 (cs := [.int .i64 vd, .string (s.extract (a + d) i), .slice e1 els.length c1]) rfl rfl rfl (fun _ => rfl) rfl rfl rfl rfl rfl rfl rfl (by omega) (by unfold maxLen; omega) ?_
    intro v' u
    refine walkT ?_
    refine k_sub [(0, .string s), (5, v'), (6, .int .i64 ((i + 1 : Nat) : Int)), (7, .int .i64 ((i + 1 : Nat) : Int))] [row false (.slice e1 els.length c1) els.length (els.flatMap refC) 139 129, relems (its.map fun x => (x.2.2, x.1.2)), row false v' (its.length + 1) (its.flatMap ritemC ++ [.int .i64 vd, .string (s.extract (a + d) i), .slice e1 els.length c1]) 112 3] (by repeat (first | exact Sub.nil | refine Sub.cons rfl ?_)) (by repeat (first | exact SubO.nil | refine SubO.keep ?_ | refine SubO.drop rfl ?_)) ?_
    refine k_addrelems ?_
    refine k_round (i + 1, i + 1, its ++ [((vd, els), (s.extract (a + d) i, .slice e1 els.length c1))], v', ps') (by repeat (first | exact Sub.nil | refine Sub.cons rfl ?_)) (by dsimp only; rw [List.map_append, flat_item, List.length_append]; repeat (first | exact SubO.nil | refine SubO.keep ?_ | refine SubO.drop rfl ?_)) ⟨Nat.le_refl _, by dsimp only; omega, fun j h1 h2 _ => by dsimp only at h1 h2; omega, by dsimp only; rw [List.map_append]; exact hC, hp1, hp2, by dsimp only; rw [List.length_append, List.length_singleton]; omega, fun x hx => ?_⟩ (by dsimp only; omega)
    dsimp only at hx
    rcases List.mem_append.1 hx with hx | hx
    · exact h80 x hx
    · rw [List.mem_singleton] at hx; subst hx; exact hl80
end Go.Proofs.YtddiecdoaggaaaaGreatDoor
