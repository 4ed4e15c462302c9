/- The walk of ParseList. -/
import Derived.Test.YtddiecdoaggaaaaGreatDoorWildP
namespace Go.Proofs.YtddiecdoaggaaaaGreatDoor
open Go.RowKit

/-- The verdict of a part, and how many bytes stand for it. -/
def partV (l : List UInt8) : Nat × Nat := if Lib.hasPrefix l [33] then (2, 1) else if Lib.hasPrefix l [64] then (3, 1) else (1, 0)
/-- The items of a list behind those so far; else the code of the error. -/
def parseGo : List (List UInt8) → List (Nat × List Elem) → List (Nat × List Elem) ⊕ Nat
  | [], items => .inl items
  | p :: ps, items =>
    if items.length = 64 then .inr 9
    else match compP (p.drop (partV p).2) with
      | .inr (_, e) => .inr e
      | .inl els => parseGo ps (items ++ [((partV p).1, els)])
def comma : ByteArray := ⟨#[44]⟩
def partsB (s : ByteArray) : List ByteArray := Lib.splitB comma 0 (Lib.countB s comma) s
def parts (l : List UInt8) : List (List UInt8) := Lib.split l [44]
def parseP (l : List UInt8) : List (Nat × List Elem) ⊕ Nat := if l.length = 0 then .inr 4 else parseGo (parts l) []
theorem partsB_len (s : ByteArray) : (partsB s).length = Lib.countB s comma + 1 := Lib.splitB_all comma (Nat.le_refl _) 0 _ s rfl
theorem countB_eq (s : ByteArray) : Lib.countB s comma = Lib.count s.data.toList [44] := rfl
theorem partsB_data (s : ByteArray) : (partsB s).map (·.data.toList) = parts s.data.toList := by
  unfold partsB parts Lib.split
  rw [Lib.splitB_data, countB_eq]; rfl
section
variable {ps : List (List UInt8)} {p : List UInt8} {items : List (Nat × List Elem)}
theorem parse_full (h : items.length = 64) : parseGo (p :: ps) items = .inr 9 := by rw [parseGo, if_pos h]
theorem parse_err {i e : Nat} (h : items.length ≠ 64) (hc : compP (p.drop (partV p).2) = .inr (i, e)) : parseGo (p :: ps) items = .inr e := by rw [parseGo, if_neg h, hc]
theorem parse_on {els : List Elem} (h : items.length ≠ 64) (hc : compP (p.drop (partV p).2) = .inl els) : parseGo (p :: ps) items = parseGo ps (items ++ [((partV p).1, els)]) := by rw [parseGo, if_neg h, hc]
end
/-- An item's two cells. -/
def itemC (x : (Nat × List Elem) × Nat) : List Value := [.int .i64 x.1.1, .pointer (some ⟨x.2, 0, none⟩)]
/-- The slice v holds the items; x.2 is the block of a pattern. -/
def ItemsAt (w : World) (v : Value) (its : List ((Nat × List Elem) × Nat)) : Prop := ∃ ea cap, v = .slice ea its.length cap ∧ (∀ a, ea = some a → BlkT w a.block 98) ∧
  (∀ i x, its[i]? = some x → ∃ eb, ea = some ⟨eb, 0, none⟩ ∧ w.cell? ⟨eb, i * 2, none⟩ = some (.int .i64 x.1.1) ∧ w.cell? ⟨eb, i * 2 + 1, none⟩ = some (.pointer (some ⟨x.2, 0, none⟩))) ∧
  ∀ x, x ∈ its → ∃ text, PatAt w x.2 text x.1.2
/-- Block lb holds the list. -/
structure ListAt (w : World) (lb : Nat) (items : List (Nat × List Elem)) : Prop where
  items : ∃ v its, w.cell? ⟨lb, 1, none⟩ = some v ∧ ItemsAt w v its ∧ its.map (·.1) = items ∧ items.length ≤ 64 ∧ ∀ x, x ∈ items → x.2.length ≤ 80
  lt : lb < w.heap.size
theorem ItemsAt.ext {w w' : World} {v : Value} {its : List ((Nat × List Elem) × Nat)} (h : ItemsAt w v its) (hb : Below w.heap.size w w') : ItemsAt w' v its := by
  obtain ⟨ea, cap, hv, hl, he, hp⟩ := h
  exact ⟨ea, cap, hv, fun a ha => (hl a ha).ext hb, fun i x hi => by obtain ⟨eb, h1, h2, h3⟩ := he i x hi; exact ⟨eb, h1, cell_ext hb h2, cell_ext hb h3⟩, fun x hx => by obtain ⟨t, h⟩ := hp x hx; exact ⟨t, h.ext hb⟩⟩
theorem ListAt.ext {w w' : World} {lb : Nat} {items : List (Nat × List Elem)} (h : ListAt w lb items) (hb : Below w.heap.size w w') : ListAt w' lb items := by
  obtain ⟨v, its, h1, h2, h3⟩ := h.items
  exact ⟨⟨v, its, cell_ext hb h1, h2.ext hb, h3⟩, Nat.lt_of_lt_of_le h.lt hb.size⟩
theorem items_of_row {w : World} {base : Nat} {v : Value} {its : List ((Nat × List Elem) × Nat)} (h : w.ownsRow base 98 2 v its.length (its.flatMap itemC)) (hp : ∀ x, x ∈ its → ∃ text, PatAt w x.2 text x.1.2) : ItemsAt w v its := by
  obtain ⟨_, h⟩ := h
  rcases h with ⟨rfl, h⟩ | ⟨g, cap, cur, rfl, _, hg, hc, _, hs, ht⟩
  · have : its = [] := List.eq_nil_of_length_eq_zero h
    subst this
    exact ⟨none, 0, rfl, by simp, by simp, by simp⟩
  · refine ⟨some ⟨g, 0, none⟩, cap, rfl, fun a ha => by cases ha; exact ⟨_, _, hg⟩, fun i x hi => ⟨g, rfl, ?_⟩, hp⟩
    have hlt : i < its.length := (List.getElem?_eq_some_iff.1 hi).1
    have key : ∀ (l : List ((Nat × List Elem) × Nat)) (i : Nat) (x : (Nat × List Elem) × Nat), l[i]? = some x → (l.flatMap itemC)[i * 2]? = some (.int .i64 x.1.1) ∧ (l.flatMap itemC)[i * 2 + 1]? = some (.pointer (some ⟨x.2, 0, none⟩)) := by
      intro l
      induction l with
      | nil => intro i x h; simp at h
      | cons y l ih =>
        intro i x h
        cases i with
        | zero => simp at h; subst h; simp [itemC]
        | succ i =>
          have := ih i x (by simpa using h)
          rw [show (i + 1) * 2 = i * 2 + 2 by omega, show i * 2 + 2 + 1 = (i * 2 + 1) + 2 by omega]
          simpa [itemC, List.flatMap_cons] using this
    obtain ⟨h1, h2⟩ := key its i x hi
    rw [← ht] at h1 h2
    rw [List.getElem?_take_of_lt (by omega)] at h1 h2
    exact ⟨by simp [World.cell?, hg]; simpa using h1, by simp [World.cell?, hg]; simpa using h2⟩

theorem comp_err {l : List UInt8} : ∀ (f i : Nat) (els : List Elem) {k c : Nat}, comp l f i els = .inr (k, c) → c ≠ 0 := by
  intro f
  induction f with
  | zero => intro i els k c h; simp [comp] at h
  | succ f ih =>
    intro i els k c h
    unfold comp at h
    split at h
    · split at h
      · exact ih _ _ h
      · split at h
        · exact ih _ _ h
        · split at h
          · exact ih _ _ h
          · split at h
            · split at h
              · simp at h; omega
              · exact ih _ _ h
            · simp at h; omega
    · simp at h
theorem compP_err {l : List UInt8} {k c : Nat} (h : compP l = .inr (k, c)) : c ≠ 0 := by
  unfold compP at h
  split at h
  · simp at h; omega
  · split at h
    · simp at h; omega
    · exact comp_err _ _ _ h
theorem partV_le (l : List UInt8) : (partV l).2 ≤ l.length ∧ (partV l).2 ≤ 1 := by
  have key : ∀ c, Lib.hasPrefix l [c] = true → 1 ≤ l.length := by
    intro c h
    cases l with
    | nil => simp [Lib.hasPrefix] at h
    | cons a l => simp
  unfold partV
  split
  · rename_i h; exact ⟨key _ h, Nat.le_refl _⟩
  · split
    · rename_i h; exact ⟨key _ h, Nat.le_refl _⟩
    · simp
theorem items_snoc {w : World} {base : Nat} {v : Value} {its : List ((Nat × List Elem) × Nat)} {x : (Nat × List Elem) × Nat} (h : w.ownsRow base 98 2 v (its.length + 1) (its.flatMap itemC ++ itemC x)) : w.ownsRow base 98 2 v (its ++ [x]).length ((its ++ [x]).flatMap itemC) := by
  rw [List.length_append, List.flatMap_append]; simpa using h

attribute [local irreducible] J OV EV EU Blk wpList Code.wp bodyPost Exit.then Exit.inBlock Round Left Hid JS wpStill
attribute [local irreducible] compP parseGo partsB parts parseP partV Value.ownBlock World.ownsRow ItemsAt
set_option maxHeartbeats 1600000 in
theorem parseList_any (s : ByteArray) (m : Int) (w : World) (hs : s.size ≤ 2000000) (hm : w.cell? ⟨0, 0, none⟩ = some (.int .i64 m)) : Calls Tryz.prog 13 #[.string s] w fun e w' => Below w.heap.size w w' ∧
    match parseP s.data.toList with
    | .inr c => ∃ i, e = .returned (.tuple #[.pointer none, .int .i64 i, .int .i64 c])
    | .inl items => ∃ lb, w.heap.size ≤ lb ∧ ListAt w' lb items ∧ e = .returned (.tuple #[.pointer (some ⟨lb, 0, none⟩), .int .i64 0, .int .i64 0]) := by
  have hsz : s.data.toList.length = s.size := len_data s
  by_cases h0 : s = ⟨#[]⟩
  · have hz : s.size = 0 := by rw [h0]; rfl
    refine j_enter (N := 74) Tryz.func13 rfl rfl rfl ?_
    refine jwalk ?_
    refine j_ret3 rfl rfl rfl rfl ⟨Below.refl _ _, ?_⟩
    have hc : parseP s.data.toList = .inr 4 := by unfold parseP; rw [if_pos (by omega)]
    rw [hc]; exact ⟨0, rfl⟩
  have h1 : s.size ≠ 0 := fun h => h0 (by
    cases s with | mk d => simp [ByteArray.size] at h; rw [h])
  have hc : parseP s.data.toList = parseGo ((partsB s).map (·.data.toList)) [] := by unfold parseP; rw [if_neg (by omega), partsB_data]
  rw [hc]
  have hcl := Lib.countB_le comma (Nat.le_refl _) _ s (Nat.le_refl _)
  have hpl := partsB_len s
  refine j_enter (N := 74) Tryz.func13 rfl rfl rfl ?_
  refine jwalk ?_
  refine j_op rfl (ov_build (vs := [.string s]) (cells := #[.string s, .slice none 0 0]) rfl (by kernel_rfl)) ?_
  refine j_new rfl (ev_box rfl) ?_
  intro w1 hb1 hx1 hz1
  have hm1 := cell_ext hx1 hm
  refine jwalk ?_
  refine j_call (by kernel_rfl) rfl rfl (Tryz.strings_Split s comma m w1 (by omega) hm1 (Nat.le_refl _)) ?_
  rintro e w2 ⟨rfl, h2⟩
  have hb2 : Blk w2 w1.heap.size ((partsB s).map Value.string) 9 := by
    rw [h2]; unfold Blk; show (w1.heap.push _)[w1.heap.size]? = _; simp [partsB]
  have hx2 : Below w1.heap.size w1 w2 := by rw [h2]; exact (Below.refl _ _).alloc (Nat.le_refl _) _
  clear h2
  refine ⟨_, rfl, ?_⟩
  rw [← hpl]
  have hbl := hb1.ext hx2
  have hx02 := hx1.trans (hx2.mono hx1.size)
  refine jwalk ?_
  refine j_loop (σ := Nat × Int × List ((Nat × List Elem) × Nat) × Value) (fun t => [(0, .string s), (5, .pointer (some ⟨w.heap.size, 0, none⟩)), (6, .int .i64 t.2.1), (20, .slice (some ⟨w1.heap.size, 0, none⟩) (partsB s).length (partsB s).length), (21, .int .i64 (partsB s).length), (22, .int .i64 t.1)]) (fun t w' => t.1 ≤ (partsB s).length ∧ t.2.2.1.length ≤ 64 ∧ (∀ x, x ∈ t.2.2.1 → x.1.2.length ≤ 80) ∧ Blk w' w.heap.size [.string s, t.2.2.2] 91 ∧ Blk w' w1.heap.size ((partsB s).map Value.string) 9 ∧ w'.ownsRow (w1.heap.size + 1) 98 2 t.2.2.2 t.2.2.1.length (t.2.2.1.flatMap itemC) ∧ (∀ x, x ∈ t.2.2.1 → ∃ text, PatAt w' x.2 text x.1.2) ∧ Below w.heap.size w w' ∧ parseGo (((partsB s).drop t.1).map (·.data.toList)) (t.2.2.1.map (·.1)) = parseGo ((partsB s).map (·.data.toList)) []) (fun t => (partsB s).length - t.1) (0, 0, [], .slice none 0 0) (Sub.cons rfl (Sub.cons rfl (Sub.cons rfl (Sub.cons rfl (Sub.cons rfl (Sub.cons rfl Sub.nil)))))) ⟨Nat.zero_le _, by simp, by simp, hbl, hb2, own_none _ _ _ _, by simp, hx02, rfl⟩ ?_
  intro t w3 h
  obtain ⟨k, off, its, v⟩ := t
  dsimp only at h ⊢
  obtain ⟨hk, hn, h80, hb, hbp, ho, hps, hx, hC⟩ := h
  by_cases hlt : k < (partsB s).length
  · have hcell : w3.cell? ⟨w1.heap.size, k, none⟩ = some (.string (partsB s)[k]) := hbp.cell (by simp)
    have hdk : ((partsB s).drop k).map (·.data.toList) = (partsB s)[k].data.toList :: ((partsB s).drop (k + 1)).map (·.data.toList) := by
      rw [List.drop_eq_getElem_cons hlt]; rfl
    rw [hdk] at hC
    generalize (partsB s)[k] = p at hcell hC
    refine jwalk ?_
    refine j_op rfl (ov_load1 rfl hcell) ?_
    by_cases h64 : its.length = 64
    · refine jwalk ?_
      refine j_op rfl (ov_load1 rfl (hb.cell (i := 1) rfl)) ?_
      obtain ⟨ea, cap, rfl⟩ := own_slice ho
      refine jwalk ?_
      rw [parse_full (by simpa using h64)] at hC
      rw [← hC]
      refine j_ret3 rfl rfl rfl rfl ⟨hx, _, rfl⟩
    · refine jwalk ?_
      refine j_op rfl (ov_load1 rfl (hb.cell (i := 1) rfl)) ?_
      obtain ⟨ea, cap, rfl⟩ := own_slice ho
      refine jwalk ?_
      have hV := partV_le p.data.toList
      have hpz := len_data p
      have hcase : (Lib.hasPrefix p.data.toList [33] = true ∧ partV p.data.toList = (2, 1)) ∨ (Lib.hasPrefix p.data.toList [33] = false ∧ Lib.hasPrefix p.data.toList [64] = true ∧ partV p.data.toList = (3, 1)) ∨ (Lib.hasPrefix p.data.toList [33] = false ∧ Lib.hasPrefix p.data.toList [64] = false ∧ partV p.data.toList = (1, 0)) := by
        unfold partV
        cases Lib.hasPrefix p.data.toList [33] <;> cases Lib.hasPrefix p.data.toList [64] <;> simp
      rcases hcase with ⟨hp1, hpv⟩ | ⟨hp1, hp2, hpv⟩ | ⟨hp1, hp2, hpv⟩
      · refine j_call (by kernel_rfl) rfl rfl (hasPrefix_as true p ⟨#[33]⟩ w3 hp1) ?_
        rintro e w4 ⟨rfl, rfl⟩
        refine ⟨_, rfl, ?_⟩
        refine jwalk ?_
        refine j_sub [(8, .string p), (9, .int .i64 ((2 : Nat) : Int)), (10, .int .i64 ((1 : Nat) : Int)), (40, .string p), (41, .int .i64 ((1 : Nat) : Int)), (0, .string s), (5, .pointer (some ⟨w.heap.size, 0, none⟩)), (6, .int .i64 off), (20, .slice (some ⟨w1.heap.size, 0, none⟩) (partsB s).length (partsB s).length), (21, .int .i64 (partsB s).length), (22, .int .i64 k)] (Sub.cons rfl (Sub.cons rfl (Sub.cons rfl (Sub.cons rfl (Sub.cons rfl (Sub.cons rfl (Sub.cons rfl (Sub.cons rfl (Sub.cons rfl (Sub.cons rfl (Sub.cons rfl Sub.nil))))))))))) ?_
        have hfr : 1 ≤ p.size := by rw [hpv] at hV; omega
        have hdr := drop_data p 1
        refine jwalk ?_
        refine j_call (by kernel_rfl) rfl rfl (compile_any (p.extract 1 p.size) w3) ?_
        rintro e w4 ⟨hx4, hE⟩
        rw [hdr] at hE
        have hx04 := hx.trans (hx4.mono hx.size)
        have hb4 := hb.ext hx4
        have hbp4 := hbp.ext hx4
        have ho4 := own_ext ho hx4
        cases hcp : compP (p.data.toList.drop 1) with
        | inr ic =>
          obtain ⟨i, c⟩ := ic
          rw [hcp] at hE
          dsimp only at hE
          subst hE
          refine ⟨_, rfl, ?_⟩
          have hc0 := compP_err hcp
          refine jwalk ?_
          refine j_op rfl (ov_addw rfl rfl) ?_
          refine jwalk ?_
          refine j_op rfl (ov_addw rfl rfl) ?_
          refine jwalk ?_
          rw [parse_err (by simpa using h64) (by rw [hpv]; exact hcp)] at hC
          rw [← hC]
          refine j_ret3 rfl rfl rfl rfl ⟨hx04, _, rfl⟩
        | inl els =>
          rw [hcp] at hE
          obtain ⟨pb, hpb, hel, hpat, rfl⟩ := hE
          refine ⟨_, rfl, ?_⟩
          refine jwalk ?_
          refine j_op rfl (ov_load1 rfl (hb4.cell (i := 1) rfl)) ?_
          refine jwalk ?_
          refine j_op rfl (ov_build (vs := [.int .i64 ((2 : Nat) : Int), .pointer (some ⟨pb, 0, none⟩)]) (cells := #[.int .i64 ((2 : Nat) : Int), .pointer (some ⟨pb, 0, none⟩)]) rfl (by kernel_rfl)) ?_
          refine j_one rfl rfl (by rfl) (by rfl) (by rfl) (by rfl) ?_
          intro w5 hb5 hx5 hz5
          have hx05 := hx04.trans (hx5.mono hx04.size)
          have hbl5 := hb4.ext hx5
          have hbp5 := hbp4.ext hx5
          have ho5 := own_ext ho4 hx5
          refine j_append (news := itemC ((2, els), pb)) rfl rfl rfl ho5 hb5.cells (by rfl) (by rfl) (by rfl) (by rfl) (by omega) (by unfold maxLen; omega) (by have := hb2.lt; have := hx4.size; have := hbp4.lt; omega) ?_
          intro v' w6 ho6 hg6 _
          have hw1 : w.heap.size < w1.heap.size + 1 := by omega
          have hbl6 := hbl5.grown hg6 (own_ne ho5 hw1)
          have hbp6 := hbp5.grown hg6 (own_ne ho5 (Nat.lt_succ_self _))
          have hx06 : Below w.heap.size w w6 := below_own ho5 hx05 hg6 (by omega) hx05.size
          refine jwalk ?_
          refine j_store1 rfl rfl hbl6 (own_one ho6) (by simp) ?_
          intro w7 hb7 hg7 hz7
          have ho7 := items_snoc (own_kept ho6 hg7 (own_ne' ho6 hw1))
          have hbp7 := hbp6.grown hg7 (by simp; omega)
          have hx07 : Below w.heap.size w w7 := hx06.trans (below_of_grownBy hg7 (Nat.le_refl _) hx06.size)
          refine jwalk ?_
          refine j_op rfl (ov_addw rfl rfl) ?_
          refine jwalk ?_
          refine j_op rfl (ov_addw rfl rfl) ?_
          refine jwalk ?_
          refine j_round (k + 1, _, its ++ [((2, els), pb)], v') (Sub.cons rfl (Sub.cons rfl (Sub.cons rfl (Sub.cons rfl (Sub.cons rfl (Sub.cons rfl Sub.nil)))))) ⟨by dsimp only; omega, by simp; omega, ?_, hb7, hbp7, ho7, ?_, hx07, ?_⟩ (by simp; omega)
          · intro x hx
            rcases List.mem_append.1 hx with hx | hx
            · exact h80 x hx
            · rw [List.mem_singleton] at hx; subst hx; exact hel
          · intro x hx
            have hold : ∀ (x : (Nat × List Elem) × Nat), (∃ text, PatAt w4 x.2 text x.1.2) → ∃ text, PatAt w7 x.2 text x.1.2 := by
              rintro x ⟨text, hp⟩
              exact ⟨text, ((hp.ext hx5).keep hg6 (fun g e => ⟨_, BlkT.of_own ho5 g e, by decide, by decide⟩)).keep hg7 (fun g e => by cases e; exact ⟨_, hbl6.ty, by decide, by decide⟩)⟩
            rcases List.mem_append.1 hx with hx | hx
            · obtain ⟨text, hp⟩ := hps x hx
              exact hold x ⟨text, hp.ext hx4⟩
            · rw [List.mem_singleton] at hx; subst hx; exact hold _ ⟨_, hpat⟩
          · rw [List.map_append, List.map_cons, List.map_nil]
            rw [parse_on (by simpa using h64) (by rw [hpv]; exact hcp), hpv] at hC
            exact hC
      · refine j_call (by kernel_rfl) rfl rfl (hasPrefix_as false p ⟨#[33]⟩ w3 hp1) ?_
        rintro e w4 ⟨rfl, rfl⟩
        refine ⟨_, rfl, ?_⟩
        refine jwalk ?_
        refine j_call (by kernel_rfl) rfl rfl (hasPrefix_as true p ⟨#[64]⟩ w3 hp2) ?_
        rintro e w4 ⟨rfl, rfl⟩
        refine ⟨_, rfl, ?_⟩
        refine jwalk ?_
        refine j_sub [(8, .string p), (9, .int .i64 ((3 : Nat) : Int)), (10, .int .i64 ((1 : Nat) : Int)), (40, .string p), (41, .int .i64 ((1 : Nat) : Int)), (0, .string s), (5, .pointer (some ⟨w.heap.size, 0, none⟩)), (6, .int .i64 off), (20, .slice (some ⟨w1.heap.size, 0, none⟩) (partsB s).length (partsB s).length), (21, .int .i64 (partsB s).length), (22, .int .i64 k)] (Sub.cons rfl (Sub.cons rfl (Sub.cons rfl (Sub.cons rfl (Sub.cons rfl (Sub.cons rfl (Sub.cons rfl (Sub.cons rfl (Sub.cons rfl (Sub.cons rfl (Sub.cons rfl Sub.nil))))))))))) ?_
        have hfr : 1 ≤ p.size := by rw [hpv] at hV; omega
        have hdr := drop_data p 1
        refine jwalk ?_
        refine j_call (by kernel_rfl) rfl rfl (compile_any (p.extract 1 p.size) w3) ?_
        rintro e w4 ⟨hx4, hE⟩
        rw [hdr] at hE
        have hx04 := hx.trans (hx4.mono hx.size)
        have hb4 := hb.ext hx4
        have hbp4 := hbp.ext hx4
        have ho4 := own_ext ho hx4
        cases hcp : compP (p.data.toList.drop 1) with
        | inr ic =>
          obtain ⟨i, c⟩ := ic
          rw [hcp] at hE
          dsimp only at hE
          subst hE
          refine ⟨_, rfl, ?_⟩
          have hc0 := compP_err hcp
          refine jwalk ?_
          refine j_op rfl (ov_addw rfl rfl) ?_
          refine jwalk ?_
          refine j_op rfl (ov_addw rfl rfl) ?_
          refine jwalk ?_
          rw [parse_err (by simpa using h64) (by rw [hpv]; exact hcp)] at hC
          rw [← hC]
          refine j_ret3 rfl rfl rfl rfl ⟨hx04, _, rfl⟩
        | inl els =>
          rw [hcp] at hE
          obtain ⟨pb, hpb, hel, hpat, rfl⟩ := hE
          refine ⟨_, rfl, ?_⟩
          refine jwalk ?_
          refine j_op rfl (ov_load1 rfl (hb4.cell (i := 1) rfl)) ?_
          refine jwalk ?_
          refine j_op rfl (ov_build (vs := [.int .i64 ((3 : Nat) : Int), .pointer (some ⟨pb, 0, none⟩)]) (cells := #[.int .i64 ((3 : Nat) : Int), .pointer (some ⟨pb, 0, none⟩)]) rfl (by kernel_rfl)) ?_
          refine j_one rfl rfl (by rfl) (by rfl) (by rfl) (by rfl) ?_
          intro w5 hb5 hx5 hz5
          have hx05 := hx04.trans (hx5.mono hx04.size)
          have hbl5 := hb4.ext hx5
          have hbp5 := hbp4.ext hx5
          have ho5 := own_ext ho4 hx5
          refine j_append (news := itemC ((3, els), pb)) rfl rfl rfl ho5 hb5.cells (by rfl) (by rfl) (by rfl) (by rfl) (by omega) (by unfold maxLen; omega) (by have := hb2.lt; have := hx4.size; have := hbp4.lt; omega) ?_
          intro v' w6 ho6 hg6 _
          have hw1 : w.heap.size < w1.heap.size + 1 := by omega
          have hbl6 := hbl5.grown hg6 (own_ne ho5 hw1)
          have hbp6 := hbp5.grown hg6 (own_ne ho5 (Nat.lt_succ_self _))
          have hx06 : Below w.heap.size w w6 := below_own ho5 hx05 hg6 (by omega) hx05.size
          refine jwalk ?_
          refine j_store1 rfl rfl hbl6 (own_one ho6) (by simp) ?_
          intro w7 hb7 hg7 hz7
          have ho7 := items_snoc (own_kept ho6 hg7 (own_ne' ho6 hw1))
          have hbp7 := hbp6.grown hg7 (by simp; omega)
          have hx07 : Below w.heap.size w w7 := hx06.trans (below_of_grownBy hg7 (Nat.le_refl _) hx06.size)
          refine jwalk ?_
          refine j_op rfl (ov_addw rfl rfl) ?_
          refine jwalk ?_
          refine j_op rfl (ov_addw rfl rfl) ?_
          refine jwalk ?_
          refine j_round (k + 1, _, its ++ [((3, els), pb)], v') (Sub.cons rfl (Sub.cons rfl (Sub.cons rfl (Sub.cons rfl (Sub.cons rfl (Sub.cons rfl Sub.nil)))))) ⟨by dsimp only; omega, by simp; omega, ?_, hb7, hbp7, ho7, ?_, hx07, ?_⟩ (by simp; omega)
          · intro x hx
            rcases List.mem_append.1 hx with hx | hx
            · exact h80 x hx
            · rw [List.mem_singleton] at hx; subst hx; exact hel
          · intro x hx
            have hold : ∀ (x : (Nat × List Elem) × Nat), (∃ text, PatAt w4 x.2 text x.1.2) → ∃ text, PatAt w7 x.2 text x.1.2 := by
              rintro x ⟨text, hp⟩
              exact ⟨text, ((hp.ext hx5).keep hg6 (fun g e => ⟨_, BlkT.of_own ho5 g e, by decide, by decide⟩)).keep hg7 (fun g e => by cases e; exact ⟨_, hbl6.ty, by decide, by decide⟩)⟩
            rcases List.mem_append.1 hx with hx | hx
            · obtain ⟨text, hp⟩ := hps x hx
              exact hold x ⟨text, hp.ext hx4⟩
            · rw [List.mem_singleton] at hx; subst hx; exact hold _ ⟨_, hpat⟩
          · rw [List.map_append, List.map_cons, List.map_nil]
            rw [parse_on (by simpa using h64) (by rw [hpv]; exact hcp), hpv] at hC
            exact hC
      · refine j_call (by kernel_rfl) rfl rfl (hasPrefix_as false p ⟨#[33]⟩ w3 hp1) ?_
        rintro e w4 ⟨rfl, rfl⟩
        refine ⟨_, rfl, ?_⟩
        refine jwalk ?_
        refine j_call (by kernel_rfl) rfl rfl (hasPrefix_as false p ⟨#[64]⟩ w3 hp2) ?_
        rintro e w4 ⟨rfl, rfl⟩
        refine ⟨_, rfl, ?_⟩
        refine jwalk ?_
        refine j_sub [(8, .string p), (9, .int .i64 ((1 : Nat) : Int)), (10, .int .i64 ((0 : Nat) : Int)), (40, .string p), (41, .int .i64 ((0 : Nat) : Int)), (0, .string s), (5, .pointer (some ⟨w.heap.size, 0, none⟩)), (6, .int .i64 off), (20, .slice (some ⟨w1.heap.size, 0, none⟩) (partsB s).length (partsB s).length), (21, .int .i64 (partsB s).length), (22, .int .i64 k)] (Sub.cons rfl (Sub.cons rfl (Sub.cons rfl (Sub.cons rfl (Sub.cons rfl (Sub.cons rfl (Sub.cons rfl (Sub.cons rfl (Sub.cons rfl (Sub.cons rfl (Sub.cons rfl Sub.nil))))))))))) ?_
        have hfr : 0 ≤ p.size := by rw [hpv] at hV; omega
        have hdr := drop_data p 0
        refine jwalk ?_
        refine j_call (by kernel_rfl) rfl rfl (compile_any (p.extract 0 p.size) w3) ?_
        rintro e w4 ⟨hx4, hE⟩
        rw [hdr] at hE
        have hx04 := hx.trans (hx4.mono hx.size)
        have hb4 := hb.ext hx4
        have hbp4 := hbp.ext hx4
        have ho4 := own_ext ho hx4
        cases hcp : compP (p.data.toList.drop 0) with
        | inr ic =>
          obtain ⟨i, c⟩ := ic
          rw [hcp] at hE
          dsimp only at hE
          subst hE
          refine ⟨_, rfl, ?_⟩
          have hc0 := compP_err hcp
          refine jwalk ?_
          refine j_op rfl (ov_addw rfl rfl) ?_
          refine jwalk ?_
          refine j_op rfl (ov_addw rfl rfl) ?_
          refine jwalk ?_
          rw [parse_err (by simpa using h64) (by rw [hpv]; exact hcp)] at hC
          rw [← hC]
          refine j_ret3 rfl rfl rfl rfl ⟨hx04, _, rfl⟩
        | inl els =>
          rw [hcp] at hE
          obtain ⟨pb, hpb, hel, hpat, rfl⟩ := hE
          refine ⟨_, rfl, ?_⟩
          refine jwalk ?_
          refine j_op rfl (ov_load1 rfl (hb4.cell (i := 1) rfl)) ?_
          refine jwalk ?_
          refine j_op rfl (ov_build (vs := [.int .i64 ((1 : Nat) : Int), .pointer (some ⟨pb, 0, none⟩)]) (cells := #[.int .i64 ((1 : Nat) : Int), .pointer (some ⟨pb, 0, none⟩)]) rfl (by kernel_rfl)) ?_
          refine j_one rfl rfl (by rfl) (by rfl) (by rfl) (by rfl) ?_
          intro w5 hb5 hx5 hz5
          have hx05 := hx04.trans (hx5.mono hx04.size)
          have hbl5 := hb4.ext hx5
          have hbp5 := hbp4.ext hx5
          have ho5 := own_ext ho4 hx5
          refine j_append (news := itemC ((1, els), pb)) rfl rfl rfl ho5 hb5.cells (by rfl) (by rfl) (by rfl) (by rfl) (by omega) (by unfold maxLen; omega) (by have := hb2.lt; have := hx4.size; have := hbp4.lt; omega) ?_
          intro v' w6 ho6 hg6 _
          have hw1 : w.heap.size < w1.heap.size + 1 := by omega
          have hbl6 := hbl5.grown hg6 (own_ne ho5 hw1)
          have hbp6 := hbp5.grown hg6 (own_ne ho5 (Nat.lt_succ_self _))
          have hx06 : Below w.heap.size w w6 := below_own ho5 hx05 hg6 (by omega) hx05.size
          refine jwalk ?_
          refine j_store1 rfl rfl hbl6 (own_one ho6) (by simp) ?_
          intro w7 hb7 hg7 hz7
          have ho7 := items_snoc (own_kept ho6 hg7 (own_ne' ho6 hw1))
          have hbp7 := hbp6.grown hg7 (by simp; omega)
          have hx07 : Below w.heap.size w w7 := hx06.trans (below_of_grownBy hg7 (Nat.le_refl _) hx06.size)
          refine jwalk ?_
          refine j_op rfl (ov_addw rfl rfl) ?_
          refine jwalk ?_
          refine j_op rfl (ov_addw rfl rfl) ?_
          refine jwalk ?_
          refine j_round (k + 1, _, its ++ [((1, els), pb)], v') (Sub.cons rfl (Sub.cons rfl (Sub.cons rfl (Sub.cons rfl (Sub.cons rfl (Sub.cons rfl Sub.nil)))))) ⟨by dsimp only; omega, by simp; omega, ?_, hb7, hbp7, ho7, ?_, hx07, ?_⟩ (by simp; omega)
          · intro x hx
            rcases List.mem_append.1 hx with hx | hx
            · exact h80 x hx
            · rw [List.mem_singleton] at hx; subst hx; exact hel
          · intro x hx
            have hold : ∀ (x : (Nat × List Elem) × Nat), (∃ text, PatAt w4 x.2 text x.1.2) → ∃ text, PatAt w7 x.2 text x.1.2 := by
              rintro x ⟨text, hp⟩
              exact ⟨text, ((hp.ext hx5).keep hg6 (fun g e => ⟨_, BlkT.of_own ho5 g e, by decide, by decide⟩)).keep hg7 (fun g e => by cases e; exact ⟨_, hbl6.ty, by decide, by decide⟩)⟩
            rcases List.mem_append.1 hx with hx | hx
            · obtain ⟨text, hp⟩ := hps x hx
              exact hold x ⟨text, hp.ext hx4⟩
            · rw [List.mem_singleton] at hx; subst hx; exact hold _ ⟨_, hpat⟩
          · rw [List.map_append, List.map_cons, List.map_nil]
            rw [parse_on (by simpa using h64) (by rw [hpv]; exact hcp), hpv] at hC
            exact hC
  · refine jwalk ?_
    rw [List.drop_eq_nil_of_le (by omega), List.map_nil, parseGo] at hC
    rw [← hC]
    refine j_ret3 rfl rfl rfl rfl ⟨hx, w.heap.size, Nat.le_refl _, ⟨⟨v, its, hb.cell rfl, items_of_row ho hps, rfl, by simpa using hn, ?_⟩, hb.lt⟩, rfl⟩
    intro x hx
    obtain ⟨y, hy, rfl⟩ := List.mem_map.1 hx
    exact h80 y hy

end Go.Proofs.YtddiecdoaggaaaaGreatDoor
