/- The walk of item. -/
import Derived.Test.YtddiecdoaggaaaaGreatDoorFeedT
namespace Go.Proofs.YtddiecdoaggaaaaGreatDoor
open Go.RowKit

theorem list32 {α : Type} : ∀ {l : List α}, l.length = 32 → ∃ i0 i1 i2 i3 i4 i5 i6 i7 i8 i9 i10 i11 i12 i13 i14 i15 i16 i17 i18 i19 i20 i21 i22 i23 i24 i25 i26 i27 i28 i29 i30 i31, l = [i0, i1, i2, i3, i4, i5, i6, i7, i8, i9, i10, i11, i12, i13, i14, i15, i16, i17, i18, i19, i20, i21, i22, i23, i24, i25, i26, i27, i28, i29, i30, i31]
  | [i0, i1, i2, i3, i4, i5, i6, i7, i8, i9, i10, i11, i12, i13, i14, i15, i16, i17, i18, i19, i20, i21, i22, i23, i24, i25, i26, i27, i28, i29, i30, i31], _ => ⟨i0, i1, i2, i3, i4, i5, i6, i7, i8, i9, i10, i11, i12, i13, i14, i15, i16, i17, i18, i19, i20, i21, i22, i23, i24, i25, i26, i27, i28, i29, i30, i31, rfl⟩
/-- What a slice of strings in elder memory reads as, up to a place. -/
theorem rowNow_of_strs {r w : World} {ea : Option Addr} {cap : Nat} {l : List ByteArray} (h : StrsAt r (.slice ea l.length cap) l) (hb : Below r.heap.size r w) (m : Nat) (hm : m ≤ l.length) (hn : ea = none → cap = 0) : RowNow w (.slice ea m cap) m ((l.take m).map Value.string) := by
  obtain ⟨ea', cap', hv', _, hc⟩ := h.ext hb
  cases hv'
  cases ea with
  | none =>
    have h0 : m = 0 := by
      rcases Nat.eq_zero_or_pos m with h | h
      · exact h
      · obtain ⟨b, o, he, _⟩ := hc 0 l[0] (by simp)
        cases he
    rw [hn rfl, h0]
    exact .inl ⟨rfl, rfl, by simp⟩
  | some ad =>
    refine .inr ⟨ad, cap, rfl, fun j u hj => ?_⟩
    rw [List.getElem?_map, List.getElem?_take] at hj
    split at hj
    · cases hl : l[j]? with
      | none => rw [hl] at hj; cases hj
      | some s =>
        rw [hl] at hj
        simp only [Option.map_some, Option.some.injEq] at hj
        subst hj
        obtain ⟨b', o', he, h2⟩ := hc j s hl
        cases he
        rw [addr_add]; exact h2
    · cases hj
/-- A slice of strings in elder memory: its cells and its room, no more. -/
def StrsN (w : World) (ea : Option Addr) (cap : Nat) (l : List ByteArray) : Prop := l.length ≤ cap ∧ (ea = none → cap = 0) ∧ ∀ i s, l[i]? = some s → ∃ b o, ea = some ⟨b, o, none⟩ ∧ w.cell? ⟨b, o + i, none⟩ = some (.string s)
theorem StrsN.ext {w w' : World} {ea : Option Addr} {cap : Nat} {l : List ByteArray} (h : StrsN w ea cap l) (hb : Below w.heap.size w w') : StrsN w' ea cap l := ⟨h.1, h.2.1, fun i s hi => by
  obtain ⟨b, o, h1, h2⟩ := h.2.2 i s hi
  exact ⟨b, o, h1, cell_ext hb h2⟩⟩
theorem strsN_of {w : World} {ea : Option Addr} {cap : Nat} {l : List ByteArray} (h : StrsAt w (.slice ea l.length cap) l) (hn : ea = none → cap = 0) : StrsN w ea cap l := by
  obtain ⟨_, _, e, h1, h2⟩ := h
  cases e
  exact ⟨h1.1, hn, h2⟩
theorem rowNow_of_strsN {r w : World} {ea : Option Addr} {cap : Nat} {l : List ByteArray} (h : StrsN r ea cap l) (hb : Below r.heap.size r w) (m : Nat) (hm : m ≤ l.length) : RowNow w (.slice ea m cap) m ((l.take m).map Value.string) := by
  obtain ⟨_, hn, hc⟩ := h.ext hb
  cases ea with
  | none =>
    have h0 : m = 0 := by
      rcases Nat.eq_zero_or_pos m with h | h
      · exact h
      · obtain ⟨b, o, he, _⟩ := hc 0 l[0] (by simp)
        cases he
    rw [hn rfl, h0]
    exact .inl ⟨rfl, rfl, by simp⟩
  | some ad =>
    refine .inr ⟨ad, cap, rfl, fun j u hj => ?_⟩
    rw [List.getElem?_map, List.getElem?_take] at hj
    split at hj
    · cases hl : l[j]? with
      | none => rw [hl] at hj; cases hj
      | some s =>
        rw [hl] at hj
        simp only [Option.map_some, Option.some.injEq] at hj
        subst hj
        obtain ⟨b', o', he, h2⟩ := hc j s hl
        cases he
        rw [addr_add]; exact h2
    · cases hj
set_option maxRecDepth 100000
attribute [local irreducible] K KS KLeft KRound J OV EV EU Blk wpList Code.wp bodyPost Exit.then Exit.inBlock Round Left Hid JS wpStill wpHeld Calls
set_option maxHeartbeats 8000000 in
theorem item_anyN (bs : List UInt8) (ea : Option Addr) (cap : Nat) (gs : List ByteArray) (d : ByteArray) (n : Int) (c : Bool) (f : ByteArray) (a : Int) (r : World) (hi : bs.length = 32) (hg : StrsN r ea cap gs) (hgn : gs.length ≤ maxLen) :
    Calls Tryz.prog 23 #[.agg (fitemC (bs.map fun c => Value.int .u8 c.toNat) (.slice ea gs.length cap) d n c f a).toArray] r fun e w' => ∃ v1 v2, e = .returned (.tuple #[.agg (fitemC (bs.map fun c => Value.int .u8 c.toNat) v1 d n c f a).toArray, .agg (fitemC (bs.map fun c => Value.int .u8 c.toNat) v2 d n c f a).toArray]) ∧
      Sat r [row false v1 (gs.take 20).length ((gs.take 20).map Value.string) 9 1, row false v2 (gs.take 20).length ((gs.take 20).map Value.string) 9 1] w' := by
  unfold maxLen at hgn
  have hcap : gs.length ≤ cap := hg.1
  have hlen : (gs.take 20).length = min gs.length 20 := by rw [List.length_take]; omega
  obtain ⟨i0, i1, i2, i3, i4, i5, i6, i7, i8, i9, i10, i11, i12, i13, i14, i15, i16, i17, i18, i19, i20, i21, i22, i23, i24, i25, i26, i27, i28, i29, i30, i31, rfl⟩ := list32 hi

  refine k_enter (N := 32) Tryz.func23 rfl rfl rfl ?_
  refine walk ?_
  refine k_box (cs := fitemC [.int .u8 (UInt8.toNat i0), .int .u8 (UInt8.toNat i1), .int .u8 (UInt8.toNat i2), .int .u8 (UInt8.toNat i3), .int .u8 (UInt8.toNat i4), .int .u8 (UInt8.toNat i5), .int .u8 (UInt8.toNat i6), .int .u8 (UInt8.toNat i7), .int .u8 (UInt8.toNat i8), .int .u8 (UInt8.toNat i9), .int .u8 (UInt8.toNat i10), .int .u8 (UInt8.toNat i11), .int .u8 (UInt8.toNat i12), .int .u8 (UInt8.toNat i13), .int .u8 (UInt8.toNat i14), .int .u8 (UInt8.toNat i15), .int .u8 (UInt8.toNat i16), .int .u8 (UInt8.toNat i17), .int .u8 (UInt8.toNat i18), .int .u8 (UInt8.toNat i19), .int .u8 (UInt8.toNat i20), .int .u8 (UInt8.toNat i21), .int .u8 (UInt8.toNat i22), .int .u8 (UInt8.toNat i23), .int .u8 (UInt8.toNat i24), .int .u8 (UInt8.toNat i25), .int .u8 (UInt8.toNat i26), .int .u8 (UInt8.toNat i27), .int .u8 (UInt8.toNat i28), .int .u8 (UInt8.toNat i29), .int .u8 (UInt8.toNat i30), .int .u8 (UInt8.toNat i31)] (.slice ea gs.length cap) d n c f a) rfl rfl rfl ?_
  intro rb
  refine walk ?_
  refine k_alloc (cs := z32 ++ [.slice none 0 0, .string ⟨#[]⟩, .int .i64 0, .bool false, .string ⟨#[]⟩, .int .i64 0]) rfl rfl ?_
  intro tb
  refine walk ?_
  refine k_alloc (cs := z32 ++ [.slice none 0 0, .string ⟨#[]⟩, .int .i64 0, .bool false, .string ⟨#[]⟩, .int .i64 0]) rfl rfl ?_
  intro ub
  refine walk ?_
  refine k_lit0 rfl ?_
  intro lb
  refine walk ?_
  refine k_op rfl (fun _ _ => ov_minN (m := gs.length) (n := 20) rfl rfl) ?_
  refine walk ?_
  refine k_op rfl (fun _ _ => ov_sliceto rfl rfl (min gs.length 20) rfl (by omega)) ?_
  refine k_appRowG (A := []) (m := min gs.length 20) (ys := (gs.take 20).map Value.string) rfl rfl rfl (fun w hw => by
    have := rowNow_of_strsN hg (hw.below rfl) (min gs.length 20) (by omega)
    rw [show gs.take (min gs.length 20) = gs.take 20 by rw [← hlen]; simp] at this
    exact this) (by rw [List.length_map, hlen, Nat.mul_one]) (by rw [List.all_map]; exact List.all_eq_true.2 fun _ _ => rfl) rfl rfl (by omega) (by unfold maxLen; omega) ?_
  intro v2
  rw [Nat.zero_add (min gs.length 20), List.nil_append, ← hlen]
  generalize gs.take 20 = l20 at hlen
  have hl20 : l20.length ≤ 20 := by omega
  refine k_rowslice 0 rfl ?_
  rintro ⟨ea2, cap2, rfl⟩
  refine walk ?_
  refine k_heldS 19 [0, 1, 3, 4, 6, 7, 8, 9, 10, 11, 12, 13, 14, 15, 17, 2, 5, 16, 18] [row false (.slice ea2 l20.length cap2) l20.length (l20.map Value.string) 9 1, bk false rb (fitemC [.int .u8 (UInt8.toNat i0), .int .u8 (UInt8.toNat i1), .int .u8 (UInt8.toNat i2), .int .u8 (UInt8.toNat i3), .int .u8 (UInt8.toNat i4), .int .u8 (UInt8.toNat i5), .int .u8 (UInt8.toNat i6), .int .u8 (UInt8.toNat i7), .int .u8 (UInt8.toNat i8), .int .u8 (UInt8.toNat i9), .int .u8 (UInt8.toNat i10), .int .u8 (UInt8.toNat i11), .int .u8 (UInt8.toNat i12), .int .u8 (UInt8.toNat i13), .int .u8 (UInt8.toNat i14), .int .u8 (UInt8.toNat i15), .int .u8 (UInt8.toNat i16), .int .u8 (UInt8.toNat i17), .int .u8 (UInt8.toNat i18), .int .u8 (UInt8.toNat i19), .int .u8 (UInt8.toNat i20), .int .u8 (UInt8.toNat i21), .int .u8 (UInt8.toNat i22), .int .u8 (UInt8.toNat i23), .int .u8 (UInt8.toNat i24), .int .u8 (UInt8.toNat i25), .int .u8 (UInt8.toNat i26), .int .u8 (UInt8.toNat i27), .int .u8 (UInt8.toNat i28), .int .u8 (UInt8.toNat i29), .int .u8 (UInt8.toNat i30), .int .u8 (UInt8.toNat i31)] (.slice ea2 l20.length cap2) d n c f a) 72] (by repeat (first | exact SubO.nil | refine SubO.keep ?_ | refine SubO.drop rfl ?_)) (by kernel_rfl) (by kernel_rfl) ?_
  dsimp only [pickL, nth, List.drop]
  refine hwalk ?_
  refine kh_op rfl rfl (fun _ hw => ov_ownPart (n := 32) 1 hw inferInstance rfl rfl (Nat.le_of_ble_eq_true rfl)) ?_
  refine hwalk ?_
  refine kh_run rfl (k_lit0 rfl ?_)
  intro lb2
  refine kh_back (by repeat (first | exact SubO.nil | refine SubO.keep ?_ | refine SubO.drop rfl ?_)) ?_
  refine kh_run rfl (k_appRowG (A := []) (m := l20.length) (ys := l20.map Value.string) rfl rfl rfl (fun w hw => rowNow_of_own (hw.row 1 rfl)) (by simp) (by rw [List.all_map]; exact List.all_eq_true.2 fun _ _ => rfl) rfl rfl (by omega) (by unfold maxLen; omega) ?_)
  intro v3
  rw [Nat.zero_add l20.length, List.nil_append]
  refine kh_back (by repeat (first | exact SubO.nil | refine SubO.keep ?_ | refine SubO.drop rfl ?_)) ?_
  refine k_rowslice 0 rfl ?_
  rintro ⟨ea3, cap3, rfl⟩
  refine kh_op rfl rfl (fun _ _ => ov_build (vs := [.agg ([.int .u8 (UInt8.toNat i0), .int .u8 (UInt8.toNat i1), .int .u8 (UInt8.toNat i2), .int .u8 (UInt8.toNat i3), .int .u8 (UInt8.toNat i4), .int .u8 (UInt8.toNat i5), .int .u8 (UInt8.toNat i6), .int .u8 (UInt8.toNat i7), .int .u8 (UInt8.toNat i8), .int .u8 (UInt8.toNat i9), .int .u8 (UInt8.toNat i10), .int .u8 (UInt8.toNat i11), .int .u8 (UInt8.toNat i12), .int .u8 (UInt8.toNat i13), .int .u8 (UInt8.toNat i14), .int .u8 (UInt8.toNat i15), .int .u8 (UInt8.toNat i16), .int .u8 (UInt8.toNat i17), .int .u8 (UInt8.toNat i18), .int .u8 (UInt8.toNat i19), .int .u8 (UInt8.toNat i20), .int .u8 (UInt8.toNat i21), .int .u8 (UInt8.toNat i22), .int .u8 (UInt8.toNat i23), .int .u8 (UInt8.toNat i24), .int .u8 (UInt8.toNat i25), .int .u8 (UInt8.toNat i26), .int .u8 (UInt8.toNat i27), .int .u8 (UInt8.toNat i28), .int .u8 (UInt8.toNat i29), .int .u8 (UInt8.toNat i30), .int .u8 (UInt8.toNat i31)] : List Value).toArray, .slice ea3 l20.length cap3, .string d, .int .i64 n, .bool c, .string f, .int .i64 a]) (cells := (fitemC [.int .u8 (UInt8.toNat i0), .int .u8 (UInt8.toNat i1), .int .u8 (UInt8.toNat i2), .int .u8 (UInt8.toNat i3), .int .u8 (UInt8.toNat i4), .int .u8 (UInt8.toNat i5), .int .u8 (UInt8.toNat i6), .int .u8 (UInt8.toNat i7), .int .u8 (UInt8.toNat i8), .int .u8 (UInt8.toNat i9), .int .u8 (UInt8.toNat i10), .int .u8 (UInt8.toNat i11), .int .u8 (UInt8.toNat i12), .int .u8 (UInt8.toNat i13), .int .u8 (UInt8.toNat i14), .int .u8 (UInt8.toNat i15), .int .u8 (UInt8.toNat i16), .int .u8 (UInt8.toNat i17), .int .u8 (UInt8.toNat i18), .int .u8 (UInt8.toNat i19), .int .u8 (UInt8.toNat i20), .int .u8 (UInt8.toNat i21), .int .u8 (UInt8.toNat i22), .int .u8 (UInt8.toNat i23), .int .u8 (UInt8.toNat i24), .int .u8 (UInt8.toNat i25), .int .u8 (UInt8.toNat i26), .int .u8 (UInt8.toNat i27), .int .u8 (UInt8.toNat i28), .int .u8 (UInt8.toNat i29), .int .u8 (UInt8.toNat i30), .int .u8 (UInt8.toNat i31)] (.slice ea3 l20.length cap3) d n c f a).toArray) rfl (by kernel_rfl)) ?_
  refine hwalk ?_
  refine kh_run rfl (k_stE3 (fitemC [.int .u8 (UInt8.toNat i0), .int .u8 (UInt8.toNat i1), .int .u8 (UInt8.toNat i2), .int .u8 (UInt8.toNat i3), .int .u8 (UInt8.toNat i4), .int .u8 (UInt8.toNat i5), .int .u8 (UInt8.toNat i6), .int .u8 (UInt8.toNat i7), .int .u8 (UInt8.toNat i8), .int .u8 (UInt8.toNat i9), .int .u8 (UInt8.toNat i10), .int .u8 (UInt8.toNat i11), .int .u8 (UInt8.toNat i12), .int .u8 (UInt8.toNat i13), .int .u8 (UInt8.toNat i14), .int .u8 (UInt8.toNat i15), .int .u8 (UInt8.toNat i16), .int .u8 (UInt8.toNat i17), .int .u8 (UInt8.toNat i18), .int .u8 (UInt8.toNat i19), .int .u8 (UInt8.toNat i20), .int .u8 (UInt8.toNat i21), .int .u8 (UInt8.toNat i22), .int .u8 (UInt8.toNat i23), .int .u8 (UInt8.toNat i24), .int .u8 (UInt8.toNat i25), .int .u8 (UInt8.toNat i26), .int .u8 (UInt8.toNat i27), .int .u8 (UInt8.toNat i28), .int .u8 (UInt8.toNat i29), .int .u8 (UInt8.toNat i30), .int .u8 (UInt8.toNat i31)] (.slice ea3 l20.length cap3) d n c f a) rfl rfl rfl rfl rfl rfl (by rfl) ?_)
  refine kh_back (by repeat (first | exact SubO.nil | refine SubO.keep ?_ | refine SubO.drop rfl ?_)) ?_
  refine kh_nil ?_
  refine k_stE2 (fitemC [.int .u8 (UInt8.toNat i0), .int .u8 (UInt8.toNat i1), .int .u8 (UInt8.toNat i2), .int .u8 (UInt8.toNat i3), .int .u8 (UInt8.toNat i4), .int .u8 (UInt8.toNat i5), .int .u8 (UInt8.toNat i6), .int .u8 (UInt8.toNat i7), .int .u8 (UInt8.toNat i8), .int .u8 (UInt8.toNat i9), .int .u8 (UInt8.toNat i10), .int .u8 (UInt8.toNat i11), .int .u8 (UInt8.toNat i12), .int .u8 (UInt8.toNat i13), .int .u8 (UInt8.toNat i14), .int .u8 (UInt8.toNat i15), .int .u8 (UInt8.toNat i16), .int .u8 (UInt8.toNat i17), .int .u8 (UInt8.toNat i18), .int .u8 (UInt8.toNat i19), .int .u8 (UInt8.toNat i20), .int .u8 (UInt8.toNat i21), .int .u8 (UInt8.toNat i22), .int .u8 (UInt8.toNat i23), .int .u8 (UInt8.toNat i24), .int .u8 (UInt8.toNat i25), .int .u8 (UInt8.toNat i26), .int .u8 (UInt8.toNat i27), .int .u8 (UInt8.toNat i28), .int .u8 (UInt8.toNat i29), .int .u8 (UInt8.toNat i30), .int .u8 (UInt8.toNat i31)] (.slice ea2 l20.length cap2) d n c f a) rfl rfl rfl rfl rfl rfl (by rfl) ?_
  refine walk ?_
  exact k_retc (l := [.cell 2 55, .cell 3 72]) rfl (fun w hw => .cons (rv_agg 3 hw rfl rfl rfl) (.cons (rv_agg 2 hw rfl rfl rfl) .nil)) fun w hw => ⟨_, _, rfl, hw.sub (by repeat (first | exact SubO.nil | refine SubO.keep ?_ | refine SubO.drop rfl ?_))⟩
theorem item_any (bs : List UInt8) (ea : Option Addr) (cap : Nat) (gs : List ByteArray) (d : ByteArray) (n : Int) (c : Bool) (f : ByteArray) (a : Int) (r : World) (hi : bs.length = 32) (hg : StrsAt r (.slice ea gs.length cap) gs) (hgn : gs.length ≤ maxLen) (hn : ea = none → cap = 0) :
    Calls Tryz.prog 23 #[.agg (fitemC (bs.map fun c => Value.int .u8 c.toNat) (.slice ea gs.length cap) d n c f a).toArray] r fun e w' => ∃ v1 v2, e = .returned (.tuple #[.agg (fitemC (bs.map fun c => Value.int .u8 c.toNat) v1 d n c f a).toArray, .agg (fitemC (bs.map fun c => Value.int .u8 c.toNat) v2 d n c f a).toArray]) ∧
      Sat r [row false v1 (gs.take 20).length ((gs.take 20).map Value.string) 9 1, row false v2 (gs.take 20).length ((gs.take 20).map Value.string) 9 1] w' := item_anyN bs ea cap gs d n c f a r hi (strsN_of hg hn) hgn
end Go.Proofs.YtddiecdoaggaaaaGreatDoor
