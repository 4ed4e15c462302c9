/- The walk of Verdict. -/
import Derived.Test.YtddiecdoaggaaaaGreatDoorWildB
import Derived.Test.YtddiecdoaggaaaaGreatDoorWildM
namespace Go.Proofs.YtddiecdoaggaaaaGreatDoor
open Go.RowKit Go.Shelf

attribute [local go_sem] Oper.semAt_some

def verdictP (items : List (Nat × List Elem)) (name : List UInt8) : Nat := match items.reverse.find? (fun x => matchP x.2 name) with
  | some x => x.1
  | none => 0
/-- An item as the loop meets it. -/
structure VItem (w : World) where
  idx : Int
  it : (Nat × List Elem) × Nat
  ok : ∃ text, PatAt w it.2 text it.1.2
  small : it.1.2.length ≤ 80
def VItem.enc {w : World} (x : VItem w) : Array Value := #[.int .i64 x.idx, .agg #[.int .i64 x.it.1.1, .pointer (some ⟨x.it.2, 0, none⟩)]]
theorem keepsFrom_of_below {B : Nat} {W W' : World} (h : Below W.heap.size W W') : KeepsFrom B W W' := ⟨h.size, fun k _ _ hk _ => (h.block k (Array.getElem?_eq_some_iff.1 hk).1).trans hk⟩
theorem blk_own {β : Type} (B : Nat) (t : TypeId) (f : β → List Value) : Own (fun s W => Blk W B (f s) t) := fun s X Y row hs hg hrow =>
  hs.grown hg (fun e' => by obtain ⟨o, ho, hc⟩ := hrow B e'.symm; rw [show X.heap[B]? = _ from hs] at ho; cases ho; cases hc)
theorem find_none {items : List (Nat × List Elem)} {name : List UInt8} (h : ∀ y ∈ items.reverse, matchP y.2 name = false) : verdictP items name = 0 := by
  unfold verdictP
  rw [List.find?_eq_none.2 (fun x hx => by rw [h x hx]; exact Bool.false_ne_true)]
theorem find_some {items : List (Nat × List Elem)} {name : List UInt8} {p q : List (Nat × List Elem)} {x : Nat × List Elem} (hr : items.reverse = p ++ x :: q) (h : ∀ y ∈ p, matchP y.2 name = false) (hx : matchP x.2 name = true) : verdictP items name = x.1 := by
  unfold verdictP
  have : items.reverse.find? (fun x => matchP x.2 name) = some x := by
    rw [hr, List.find?_append, List.find?_eq_none.2 (fun x hx => by rw [h x hx]; exact Bool.false_ne_true)]
    simp [hx]
  rw [this]

def vitem (w : World) (its : List ((Nat × List Elem) × Nat)) (hk : ∀ x ∈ its, (∃ text, PatAt w x.2 text x.1.2) ∧ x.1.2.length ≤ 80) (hpos : 0 < its.length) (k : Nat) : VItem w :=
  ⟨(its.length : Int) - 1 - k, its[its.length - 1 - k]'(by omega), (hk _ (List.getElem_mem _)).1, (hk _ (List.getElem_mem _)).2⟩
theorem back_stops (w : World) (its : List ((Nat × List Elem) × Nat)) (hk : ∀ x ∈ its, (∃ text, PatAt w x.2 text x.1.2) ∧ x.1.2.length ≤ 80) (v : Value) (hI : ItemsAt w v its) (hn : its.length ≤ 64) :
    ∃ all : List (VItem w), all.map (·.it) = its.reverse ∧ ∀ (w' : World) (Bs : Nat), Below w.heap.size w w' → w.heap.size ≤ Bs → Bs < w'.heap.size → w'.cell? ⟨Bs, 0, none⟩ = some v →
      SeqStopsK Fence.wide 3 Tryz.prog 104 #[.pointer (some ⟨Bs, 0, none⟩)] VItem.enc (Below (Bs + 1)) (fun ys => ys = all) (fun pre => pre <+: all) its.length w' := by
  obtain ⟨ea, cap, rfl, hty, hcs, _⟩ := hI
  cases hl : its with
  | nil =>
    subst hl
    refine ⟨[], rfl, fun w' Bs hx hge hB hc l J Jx W hW _ _ hY h0 => ?_⟩
    have hc' := (hW.cell (p := ⟨Bs, 0, none⟩) hB).trans hc
    exact (back1_nil_in Fence.wide 3 trivial rfl l Bs cap ea J W hc' h0).mono fun e W' ⟨he, hj⟩ => ⟨he, .inl ⟨_, rfl, hj⟩⟩
  | cons x0 its' =>
    rw [← hl]
    have hpos : 0 < its.length := by rw [hl]; simp
    refine ⟨upto (vitem w its hk hpos) its.length, ?_, fun w' Bs hx hge hB hc l J Jx W hW _ _ hY h0 => ?_⟩
    · apply List.ext_getElem
      · simp [upto]
      · intro i h1 h2
        simp [upto, vitem]
    · obtain ⟨eb, rfl, _⟩ := hcs 0 its[0] (by simp [hpos])
      have heb := (hty _ rfl).lt
      have hc' := (hW.cell (p := ⟨Bs, 0, none⟩) hB).trans hc
      have hxW : Below w.heap.size w W := hx.trans (hW.mono hx.size)
      refine (back1_in Fence.wide 3 trivial rfl (by omega) l Bs (Bs + 1) eb its.length cap (vitem w its hk hpos) VItem.enc (fun i => .int .i64 ((its[i]?.map (·.1.1)).getD 0)) (fun i => .pointer (some ⟨(its[i]?.map (·.2)).getD 0, 0, none⟩)) (by omega) (by dsimp only at heb; omega) J Jx (fun k hk => ?_) hY W (by omega) hc' (fun j hj => ?_) h0).mono ?_
      · unfold VItem.enc
        have hlt : its.length - 1 - k < its.length := by omega
        simp only [vitem, List.getElem?_eq_getElem hlt, Option.map_some, Option.getD_some]
      · obtain ⟨eb', he, h1, h2⟩ := hcs j its[j] (by simp [hj])
        cases he
        simp only [List.getElem?_eq_getElem hj, Option.map_some, Option.getD_some]
        exact ⟨(hxW.cell (p := ⟨eb, j * 2, none⟩) heb).trans h1, (hxW.cell (p := ⟨eb, j * 2 + 1, none⟩) heb).trans h2⟩
      · rintro e W' ⟨he, ⟨ys, rfl, hj⟩ | ⟨pre, ⟨k, hk2, rfl⟩, hj⟩⟩
        · exact ⟨he, .inl ⟨_, rfl, hj⟩⟩
        · refine ⟨he, .inr ⟨_, ?_, hj⟩⟩
          unfold upto
          refine ⟨((List.range its.length).drop k).map (vitem w its hk hpos), ?_⟩
          rw [← List.map_append]
          congr 1
          rw [show List.range k = (List.range its.length).take k by rw [List.take_range, Nat.min_eq_left hk2], List.take_append_drop]

set_option maxRecDepth 100000 in
set_option maxHeartbeats 2000000 in
theorem verdict_any (lb : Nat) (name : ByteArray) (items : List (Nat × List Elem)) (w : World) (hL : ListAt w lb items) (hs : name.size ≤ 9223372036854775807) :
    Calls Tryz.prog 83 #[.pointer (some ⟨lb, 0, none⟩), .string name] w fun e w' => e = .returned (.int .i64 (verdictP items name.data.toList)) ∧ Below w.heap.size w w' := by
  obtain ⟨⟨v, its, hv, hI, rfl, hn, h80⟩, hlb⟩ := hL
  have hn' : its.length ≤ 64 := by simpa using hn
  have hok : ∀ x ∈ its, (∃ text, PatAt w x.2 text x.1.2) ∧ x.1.2.length ≤ 80 := fun x hx => by
    obtain ⟨_, _, _, _, _, h5⟩ := hI
    exact ⟨h5 x hx, h80 _ (List.mem_map.2 ⟨x, hx, rfl⟩)⟩
  obtain ⟨all, hall, hstops⟩ := back_stops w its hok v hI hn'
  obtain ⟨ea, cap, rfl, _⟩ := hI
  refine (callsIn_wide (n := 4)).1 ?_
  refine callsIn_of_wp_marks Tryz.func83 rfl trivial ?_ rfl
  simp only [Tryz.ntmps83, List.size_toArray, List.length_cons, List.length_nil, Nat.reduceAdd, Nat.reduceSub, Array.replicate_succ, Array.replicate_zero, List.push_toArray, List.append_toArray, List.nil_append, List.cons_append]
  have hx2 : Below w.heap.size w ((w.alloc (.cells #[.string name] 9)).alloc (.cells #[.int .i64 0] 3)) := ((Below.refl _ w).alloc (Nat.le_refl _) _).alloc (by simp) _
  have hv2 := cell_ext hx2 hv
  have b0 := (Boxed.new w 9 (.string name)).alloc (.cells #[.int .i64 0] 3)
  have b1 := Boxed.new (w.alloc (.cells #[.string name] 9)) 3 (.int .i64 0)
  have hz2 : ((w.alloc (.cells #[.string name] 9)).alloc (.cells #[.int .i64 0] 3)).heap.size = w.heap.size + 2 := by simp
  simp only [World.size_alloc] at b1
  gi_wp2_with (refine ⟨trivial, ?_⟩; gi_at_call 96; refine (callsIn_wide.2 (back_any (.slice ea its.length cap) _ rfl)).mono ?_; rintro e W0 ⟨rfl, hx0, hb0⟩)
  have hz0 := hx0.size
  have hz1 := hb0.lt
  rw [hz2] at hb0 hz0 hz1
  have c0 : Boxed W0 w.heap.size 9 (.string name) := b0.kept (row := none) (grownBy_of_below hx0) (by simp)
  have c1 : Boxed W0 (w.heap.size + 1) 3 (.int .i64 0) := b1.kept (row := none) (grownBy_of_below hx0) (by simp)
  have hB0 : Below w.heap.size w W0 := hx2.trans (hx0.mono (by rw [hz2]; omega))
  clear hx0 b0 b1 hv2 hx2 hz2
  refine wpIn_rangeFunc_ownH (α := VItem w) rfl (by omega) (gf := 104) (lb := #[.pointer (some ⟨w.heap.size + 2, 0, none⟩)]) rfl trivial (enters_of Tryz.func104 (by kernel_rfl) rfl)
    (hstops W0 (w.heap.size + 2) hB0 (by omega) hz1 (hb0.cell rfl)) belowK_t (belowK_b (by omega)) (Below.refl _ _) (fun _ => rfl)
    (fun pre W => ((∀ y ∈ pre, matchP y.it.1.2 name.data.toList = false) ∧ Boxed W w.heap.size 9 (.string name) ∧ Boxed W (w.heap.size + 1) 3 (.int .i64 0) ∧ w.heap.size + 2 < W.heap.size) ∧ Below w.heap.size w W)
    (fun c pre W => ((c = .ret ∧ ∃ p x, pre = p ++ [x] ∧ (∀ y ∈ p, matchP y.it.1.2 name.data.toList = false) ∧ matchP x.it.1.2 name.data.toList = true ∧ Boxed W (w.heap.size + 1) 3 (.int .i64 x.it.1.1))) ∧ Below w.heap.size w W)
    (OwnFrom.and (Own.from (fun s X Y row hs hg hr => ⟨hs.1, boxed_own _ _ (fun (_ : Unit) => Value.string name) () X Y row hs.2.1 hg hr, boxed_own _ _ (fun (_ : Unit) => Value.int .i64 0) () X Y row hs.2.2.1 hg hr, Nat.lt_of_lt_of_le hs.2.2.2 hg.size⟩) _) (ownFrom_below (Nat.le_refl _) (by omega)))
    (fun c => OwnFrom.and (Own.from (fun s X Y row hs hg hr => ⟨hs.1, by obtain ⟨p, x, h1, h2, h3, h4⟩ := hs.2; exact ⟨p, x, h1, h2, h3, boxed_own _ _ (fun (_ : Unit) => Value.int .i64 x.it.1.1) () X Y row h4 hg hr⟩⟩) _) (ownFrom_below (Nat.le_refl _) (by omega)))
    ⟨⟨by simp, c0, c1, hz1⟩, hB0⟩
    (fun x a' W => ∃ Bx, w.heap.size + 2 < Bx ∧ Blk W Bx [.int .i64 x.it.1.1, .pointer (some ⟨x.it.2, 0, none⟩)] 98 ∧ a' = { tmps := #[.pointer (some ⟨lb, 0, none⟩), .string name, undef, .pointer (some ⟨w.heap.size, 0, none⟩), .pointer (some ⟨w.heap.size + 1, 0, none⟩), undef, .pointer (some ⟨Bx, 0, none⟩), .pointer (some ⟨lb, 0, none⟩), .bool false, .pointer (some ⟨lb, 0, none⟩), .pointer (some ⟨lb, 0, none⟩), .pointer (some ⟨lb, 1, none⟩), .slice ea its.length cap, .func (.func 104) #[] #[.pointer (some ⟨w.heap.size + 2, 0, none⟩)], .int .i64 x.idx, .agg #[.int .i64 x.it.1.1, .pointer (some ⟨x.it.2, 0, none⟩)], undef, undef, undef, undef, undef, undef], defers := [] })
    (fun x a' _ X Y row hs hg hr => by obtain ⟨Bx, h1, h2, h3⟩ := hs; exact ⟨Bx, h1, blk_own Bx _ (fun (_ : Unit) => _) () X Y row h2 hg (fun r e => (hr r e).2), h3⟩)
    ?assign ?body ?done ?stop
  case assign =>
    rintro l pre x W K ⟨⟨hp, d0, d1, hzW⟩, hB1⟩ hK
    unfold VItem.enc
    gi_wp2
    exact hK _ _ ((KeepsOthers.alloc _ _).from _) ((Below.refl _ W).alloc (by omega) _) ⟨⟨hp, d0.alloc _, d1.alloc _, by simp; omega⟩, hB1.alloc hB1.size _⟩ ⟨W.heap.size, hzW, World.alloc_heap_new W _, rfl⟩
  case body =>
    rintro l pre x a' W hl ⟨r, hr⟩ ⟨⟨hp, d0, d1, hzW⟩, hB1⟩ ⟨Bx, hBx, bX, rfl⟩ hlt
    have f0 := d0.cell
    have f1 := d1.cell
    have f2 := d1.frozen
    have g0 := bX.cell (i := 0) rfl
    have g1 := bX.cell (i := 1) rfl
    obtain ⟨text, hpat⟩ := x.ok
    have h1' : 1 ≤ 4 - 1 - 1 := by omega
    gi_wp2_with (refine ⟨trivial, ?_⟩; gi_at_call 97; refine (CallsIn.inRound l (callsIn_wide.2 (match_any x.it.2 text name x.it.1.2 W (hpat.ext hB1) hs (by have := x.small; omega)))).mono ?_; rintro e W2 ⟨rfl, hx2⟩; have q0 := cell_ext hx2 g0; have k0 := d0.kept (row := none) (grownBy_of_below hx2) (by simp); have k1 := d1.kept (row := none) (grownBy_of_below hx2) (by simp); have f3 := k1.cell; have f4 := k1.frozen)
    · rename_i hm
      exact ⟨KeepsFrom.trans (keepsFrom_of_below hx2) ((KeepsOthers.setCell _ _ _).from _), ⟨rfl, pre, x, rfl, hp, hm, k1.set _⟩, (hB1.trans (hx2.mono hB1.size)).setCell (p := ⟨w.heap.size + 1, 0, none⟩) (by simp) _⟩
    · rename_i hm
      exact ⟨keepsFrom_of_below hx2, hx2.mono (by omega), ⟨fun y hy => (List.mem_append.1 hy).elim (hp y) (fun e => by simp at e; subst e; exact hm), k0, k1, Nat.lt_of_lt_of_le hzW hx2.size⟩, hB1.trans (hx2.mono hB1.size)⟩
  case done =>
    rintro D ys W hD rfl ⟨⟨hp, d0, d1, hzW⟩, hB1⟩ hK
    have f1 := d1.cell
    have f2 := d1.frozen
    gi_wp2
    have hK' := (KeepsOthers.setCell W ⟨w.heap.size + 1, 0, none⟩ (.int .i64 0)).same D _ hK rfl
    refine ⟨by simp, .inl ⟨_, _, rfl, run_takeDeferred hK', ?_⟩⟩
    have hc5 := cell_kept (World.cell?_setCell_same' W ⟨w.heap.size + 1, 0, none⟩ (.int .i64 0) (by rw [f1]; rfl)) (grownBy_putObj' _ D (.deferred none)) (fun r e => by cases e; exact ⟨_, hK', rfl⟩)
    refine ⟨.int .i64 0, ?_, ?_, (hB1.setCell (p := ⟨w.heap.size + 1, 0, none⟩) (by simp) _).trans (belowK_b (w := w) (Nat.le_refl _) _ D _ _ (by omega) hK' rfl rfl)⟩
    · simp [results, Tryz.f83, go_sem, hc5]
    · rw [find_none]
      · rfl
      · intro y hy
        rw [← List.map_reverse, ← hall, List.map_map] at hy
        obtain ⟨z, hz, rfl⟩ := List.mem_map.1 hy
        exact hp z hz
  case stop =>
    rintro D c pre W hD hpre ⟨⟨rfl, p, x, rfl, hp, hx, d1⟩, hB1⟩ hK
    gi_wp2
    refine ⟨by simp, .inl ⟨_, _, rfl, run_takeDeferred hK, ?_⟩⟩
    have hc5 := cell_kept d1.cell (grownBy_putObj' _ D (.deferred none)) (fun r e => by cases e; exact ⟨_, hK, rfl⟩)
    refine ⟨.int .i64 x.it.1.1, ?_, ?_, hB1.trans (belowK_b (w := w) (Nat.le_refl _) W D _ _ (by omega) hK rfl rfl)⟩
    · simp [results, Tryz.f83, go_sem, hc5]
    · obtain ⟨q, hq⟩ := hpre
      have hr : (its.map (·.1)).reverse = p.map (·.it.1) ++ x.it.1 :: q.map (·.it.1) := by
        rw [← List.map_reverse, ← hall, ← hq]; simp; rfl
      rw [find_some hr (fun y hy => by obtain ⟨z, hz, rfl⟩ := List.mem_map.1 hy; exact hp z hz) hx]

end Go.Proofs.YtddiecdoaggaaaaGreatDoor
