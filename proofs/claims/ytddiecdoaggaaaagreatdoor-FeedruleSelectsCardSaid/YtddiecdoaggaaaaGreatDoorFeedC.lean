/- The walk of feedrule.Compile. -/
import Derived.Test.YtddiecdoaggaaaaGreatDoorFeedB
namespace Go.Proofs.YtddiecdoaggaaaaGreatDoor
open Go.RowKit

/-- Block fb holds the feed of a rule. -/
def FeedAt (w : World) (fb : Nat) (nb pats : ByteArray) (mb dl : Int) (dists : List ByteArray) (items : List (Nat × List Elem)) : Prop :=
  ∃ dv lb, Blk w fb [.string nb, .string pats, .int .i64 mb, .int .i64 dl, dv, .pointer (some ⟨lb, 0, none⟩)] 53 ∧ StrsAt w dv dists ∧ ListAt w lb items
theorem FeedAt.ext {w w' : World} {fb : Nat} {nb pats : ByteArray} {mb dl : Int} {dists : List ByteArray} {items : List (Nat × List Elem)} (h : FeedAt w fb nb pats mb dl dists items) (hb : Below w.heap.size w w') : FeedAt w' fb nb pats mb dl dists items := by
  obtain ⟨dv, lb, h1, h2, h3⟩ := h
  exact ⟨dv, lb, h1.ext hb, h2.ext hb, h3.ext hb⟩
theorem check_zero {nb pats : List UInt8} {mb dl : Int} {dists : List ByteArray} (h : checkP nb pats mb dl dists = 0) : ∃ items, parseP pats = .inl items := by
  unfold checkP at h
  split at h
  · omega
  · split at h
    · rename_i c hp
      exact absurd h (parseP_err hp)
    · rename_i items hp
      exact ⟨items, hp⟩

attribute [local irreducible] J OV EV EU Blk wpList Code.wp bodyPost Exit.then Exit.inBlock Round Left Hid JS wpStill
attribute [local irreducible] parseP checkP
set_option maxHeartbeats 1600000 in
theorem feedCompile_any (nb pats : ByteArray) (mb dl : Int) (dv : Value) (dists : List ByteArray) (m : Int) (w : World) (hnb : nb.size ≤ 2000000) (hps : pats.size ≤ 2000000) (hd : StrsAt w dv dists) (hds : ∀ s ∈ dists, s.size ≤ 9223372036854775807) (hdn : dists.length ≤ 2000000) (hm : w.cell? ⟨0, 0, none⟩ = some (.int .i64 m)) :
    Calls Tryz.prog 5 #[.agg #[.string nb, .string pats, .int .i64 mb, .int .i64 dl, dv]] w fun e w' => Below w.heap.size w w' ∧
      (checkP nb.data.toList pats.data.toList mb dl dists ≠ 0 → e = .returned (.tuple #[.pointer none, .int .i64 (checkP nb.data.toList pats.data.toList mb dl dists)])) ∧
      (checkP nb.data.toList pats.data.toList mb dl dists = 0 → ∃ fb items, parseP pats.data.toList = .inl items ∧ w.heap.size ≤ fb ∧ FeedAt w' fb nb pats mb dl dists items ∧ e = .returned (.tuple #[.pointer (some ⟨fb, 0, none⟩), .int .i64 0])) := by
  have hdv : dv.oneCell' = true := by obtain ⟨_, _, rfl, _⟩ := hd; rfl
  refine j_enter (N := 30) Tryz.func5 rfl rfl rfl ?_
  refine jwalk ?_
  refine j_new rfl (ev_box rfl) ?_
  intro w1 hb1 hx1 hz1
  replace hb1 : Blk w1 w.heap.size [.string nb, .string pats, .int .i64 mb, .int .i64 dl, dv] 26 := hb1
  have hd1 := hd.ext hx1
  have hm1 := cell_ext hx1 hm
  refine jwalk ?_
  refine j_op rfl (ov_loadAgg rfl (by rfl) hb1.cells) ?_
  refine jwalk ?_
  refine j_call (by kernel_rfl) rfl rfl (check_any nb pats mb dl dv dists m w1 hnb hps hd1 hds hdn hm1) ?_
  rintro e w2 ⟨rfl, hx2⟩
  refine ⟨_, rfl, ?_⟩
  have hx02 := hx1.trans (hx2.mono hx1.size)
  have hb2 := hb1.ext hx2
  have hd2 := hd1.ext hx2
  have hm2 := cell_ext hx2 hm1
  generalize hc : checkP nb.data.toList pats.data.toList mb dl dists = c
  by_cases h0 : c = 0
  · obtain ⟨items, hP⟩ := check_zero (hc.trans h0)
    refine jwalk ?_
    refine j_op rfl (ov_load1 rfl (hb2.cell (i := 4) rfl)) ?_
    refine jwalk ?_
    refine j_call (by kernel_rfl) rfl rfl (clone_any dv dists w2 hd2 hdn) ?_
    rintro e w3 ⟨v', rfl, ho3, hx3⟩
    refine ⟨_, rfl, ?_⟩
    have hb3 := hb2.ext hx3
    have hx03 := hx02.trans (hx3.mono hx02.size)
    have hm3 := cell_ext hx3 hm2
    refine jwalk ?_
    refine j_store1 rfl rfl hb3 (own_one ho3) (by simp) ?_
    intro w4 hb4 hg4 hz4
    replace hb4 : Blk w4 w.heap.size [.string nb, .string pats, .int .i64 mb, .int .i64 dl, v'] 26 := hb4
    have hlt := hb2.lt
    have ho4 := own_kept ho3 hg4 (own_ne' ho3 (by omega))
    have hx04 := hx03.trans (below_of_grownBy hg4 (Nat.le_refl _) hx03.size)
    have hm4 := cell_grown hg4 hm3 (by have := World.block_lt_of_cell? w _ hm; simp; simp at this; omega)
    have hd4 := strs_of_row ho4
    refine jwalk ?_
    refine j_op rfl (ov_load1 rfl (hb4.cell (i := 1) rfl)) ?_
    refine jwalk ?_
    refine j_call (by kernel_rfl) rfl rfl (parseList_any pats m w4 hps hm4) ?_
    rintro e w5 ⟨hx5, hE⟩
    rw [hP] at hE
    obtain ⟨lb, hlb, hL, rfl⟩ := hE
    refine ⟨_, rfl, ?_⟩
    have hb5 := hb4.ext hx5
    have hd5 := hd4.ext hx5
    have hx05 := hx04.trans (hx5.mono hx04.size)
    refine jwalk ?_
    refine j_op rfl (ov_loadAgg rfl (by rfl) hb5.cells) ?_
    have hv1 := own_one ho3
    have hcv : v'.cells = #[v'] := oneCell_cells hv1
    obtain ⟨ea, cap, rfl⟩ := own_slice ho3
    refine j_op rfl (ov_build (vs := [.agg #[.string nb, .string pats, .int .i64 mb, .int .i64 dl, .slice ea dists.length cap]]) (cells := #[.string nb, .string pats, .int .i64 mb, .int .i64 dl, .slice ea dists.length cap]) rfl (by kernel_rfl)) ?_
    refine jwalk ?_
    refine j_op rfl (ov_build (vs := [.agg #[.string nb, .string pats, .int .i64 mb, .int .i64 dl, .slice ea dists.length cap], .pointer (some ⟨lb, 0, none⟩)]) (cells := #[.string nb, .string pats, .int .i64 mb, .int .i64 dl, .slice ea dists.length cap, .pointer (some ⟨lb, 0, none⟩)]) rfl (by kernel_rfl)) ?_
    refine j_new rfl (ev_box rfl) ?_
    intro w6 hb6 hx6 hz6
    replace hb6 : Blk w6 w5.heap.size [.string nb, .string pats, .int .i64 mb, .int .i64 dl, .slice ea dists.length cap, .pointer (some ⟨lb, 0, none⟩)] 53 := hb6
    refine jwalk ?_
    refine j_ret2 rfl rfl rfl ⟨hx05.trans (hx6.mono hx05.size), fun h => absurd h0 h, fun _ => ⟨w5.heap.size, items, hP, hx05.size, ⟨_, lb, hb6, hd5.ext hx6, hL.ext hx6⟩, rfl⟩⟩
  · refine jwalk ?_
    refine j_ret2 rfl rfl rfl ⟨hx02, fun _ => rfl, fun h => absurd h h0⟩

end Go.Proofs.YtddiecdoaggaaaaGreatDoor
