/- The walks of To and item. -/
import Derived.Test.YtddiecdoaggaaaaGreatDoorFeedK
import Derived.Test.YtddiecdoaggaaaaGreatDoorRet
namespace Go.Proofs.YtddiecdoaggaaaaGreatDoor
open Go.RowKit

theorem ov_minN {P : Program} {env : Env} {w : World} {x y : Operand} {ts : Array TypeId} {m n : Nat} (hx : evx env x = some (.int .i64 ((m : Nat) : Int))) (hy : evx env y = some (.int .i64 ((n : Nat) : Int))) : OV P env (.call { callee := .builtin .min, args := #[x, y], argTypes := ts }) w (.int .i64 ((min m n : Nat) : Int)) := by
  have := ov_min (P := P) (w := w) (ts := ts) hx hy
  have e : (if (n : Int) < m then (n : Int) else m) = ((min m n : Nat) : Int) := by split <;> omega
  rw [e] at this; exact this
theorem k_heldS {P : Program} {N : Nat} {env : Env} {r : World} {O : List Own} {Q : Exit → Act → World → Prop} {id : Nat} {l : List Oper} (n : Nat) (ord : List Nat) (O0 : List Own) (hs : SubO O0 O) (hm : P.follows .mixedOrders = true) (hB : heldB l.toArray n ord = true)
    (h : K N env r O (wpHeld P l.toArray (Sat r O0) (wpList P l.toArray Q (l.drop n)) (pickL l ord))) : K N env r O (Code.wp P (.region id l.toArray true) Q) :=
  fun _ hw => j_held n ord (Sat r O0) hm hB fun w1 hb _ => ⟨(hw.ext hb).sub hs, h w1 (hw.ext hb)⟩
def cut (s : ByteArray) (n : Nat) : ByteArray := s.extract 0 (min s.size n)
set_option maxRecDepth 100000
attribute [local irreducible] K KS KLeft KRound J OV EV EU Blk wpList Code.wp bodyPost Exit.then Exit.inBlock Round Left Hid JS wpStill wpHeld Calls
set_option maxHeartbeats 4000000 in
theorem to_any (nb pats : ByteArray) (mb dl : Int) (dv : Value) (dists : List ByteArray) (r : World) (hnb : nb.size ≤ maxLen) (hps : pats.size ≤ maxLen) (hd : StrsAt r dv dists) (hdn : dists.length ≤ maxLen) :
    Calls Tryz.prog 4 #[.agg #[.string nb, .string pats, .int .i64 mb, .int .i64 dl, dv]] r fun e w' => ∃ v1 v2, e = .returned (.tuple #[.agg #[.string (cut nb 40), .string (cut pats 300), .int .i64 mb, .int .i64 dl, v1], .agg #[.string (cut nb 40), .string (cut pats 300), .int .i64 mb, .int .i64 dl, v2]]) ∧
      Sat r [row false v1 (dists.take 10).length ((dists.take 10).map Value.string) 9 1, row false v2 (dists.take 10).length ((dists.take 10).map Value.string) 9 1] w' := by
  unfold maxLen at hnb hps hdn
  obtain ⟨ea, cap, rfl, ⟨hcap, _⟩, hcs⟩ := hd
  refine k_enter (N := 60) Tryz.func4 rfl rfl rfl ?_
  refine walk ?_
  refine k_box (cs := [.string nb, .string pats, .int .i64 mb, .int .i64 dl, .slice ea dists.length cap]) rfl rfl rfl ?_
  intro rb
  refine walk ?_
  refine k_alloc (cs := [.string ⟨#[]⟩, .string ⟨#[]⟩, .int .i64 0, .int .i64 0, .slice none 0 0]) rfl rfl ?_
  intro tb
  refine walk ?_
  refine k_alloc (cs := [.string ⟨#[]⟩, .string ⟨#[]⟩, .int .i64 0, .int .i64 0, .slice none 0 0]) rfl rfl ?_
  intro ub
  refine walk ?_
  refine k_held 20 [0, 1, 2, 3, 4, 5, 6, 7, 8, 9, 10, 11, 12, 13, 14, 15, 16, 17, 18, 19] (by kernel_rfl) (by kernel_rfl) ?_
  dsimp only [pickL, nth, List.drop]
  refine hwalk ?_
  refine kh_op rfl rfl (fun _ _ => ov_minN (m := nb.size) (n := 40) rfl rfl) ?_
  refine hwalk ?_
  refine kh_op rfl rfl (fun _ _ => ov_minN (m := pats.size) (n := 300) rfl rfl) ?_
  refine hwalk ?_
  refine kh_op rfl rfl (fun _ _ => ov_build (vs := [.string (cut nb 40), .string (cut pats 300), .int .i64 mb, .int .i64 dl]) (cells := #[.string (cut nb 40), .string (cut pats 300), .int .i64 mb, .int .i64 dl, .slice none 0 0]) rfl (by kernel_rfl)) ?_
  refine kh_run rfl (k_alloc (cs := [.string ⟨#[]⟩, .string ⟨#[]⟩, .int .i64 0, .int .i64 0, .slice none 0 0]) rfl rfl ?_)
  intro xb
  refine kh_back (by repeat (first | exact SubO.nil | refine SubO.keep ?_ | refine SubO.drop rfl ?_)) ?_
  refine hwalk ?_
  refine k_stE0 [.string (cut nb 40), .string (cut pats 300), .int .i64 mb, .int .i64 dl, .slice none 0 0] rfl rfl rfl rfl rfl rfl (by rfl) ?_
  refine walk ?_
  refine k_nilrow 9 1 ?_
  refine k_loop (σ := Nat × Value) (fun s => [(1, .pointer (some ⟨rb, 0, none⟩)), (2, .pointer (some ⟨tb, 0, none⟩)), (3, .pointer (some ⟨ub, 0, none⟩)), (4, .pointer (some ⟨xb, 0, none⟩)), (5, .int .i64 s.1)])
    (fun s => [row false s.2 (dists.take s.1).length ((dists.take s.1).map Value.string) 9 1, bk false xb [.string (cut nb 40), .string (cut pats 300), .int .i64 mb, .int .i64 dl, s.2] 24, bk false ub [.string ⟨#[]⟩, .string ⟨#[]⟩, .int .i64 0, .int .i64 0, .slice none 0 0] 24, bk false tb [.string ⟨#[]⟩, .string ⟨#[]⟩, .int .i64 0, .int .i64 0, .slice none 0 0] 26, bk false rb [.string nb, .string pats, .int .i64 mb, .int .i64 dl, .slice ea dists.length cap] 24])
    (fun s => s.1 ≤ 10 ∧ s.1 ≤ dists.length) (fun s => 10 - s.1) (0, .slice none 0 0) (by repeat (first | exact Sub.nil | refine Sub.cons rfl ?_)) (by repeat (first | exact SubO.nil | refine SubO.keep ?_ | refine SubO.drop rfl ?_)) ⟨Nat.zero_le _, Nat.zero_le _⟩ ?_
  rintro ⟨k, v⟩ ⟨hk, hkl⟩
  dsimp only at hk hkl ⊢
  refine k_rowslice 0 rfl ?_
  rintro ⟨ea0, cap0, rfl⟩
  by_cases hgo : k < dists.length ∧ k < 10
  · obtain ⟨hlt, h10⟩ := hgo
    obtain ⟨b, o, rfl, hcell⟩ := hcs k dists[k] (by simp [hlt])
    have hsn : dists.take (k + 1) = dists.take k ++ [dists[k]] := by rw [List.take_add_one]; simp [hlt]
    refine walk ?_
    refine k_held 8 [0, 1, 2, 3, 4, 5, 6, 7] (by kernel_rfl) (by kernel_rfl) ?_
    dsimp only [pickL, nth, List.drop]
    refine hwalk ?_
    refine kh_run rfl (k_lit (vs := [.string dists[k]]) rfl rfl rfl rfl rfl rfl rfl ?_)
    intro ob
    refine kh_back (by repeat (first | exact SubO.nil | refine SubO.keep ?_ | refine SubO.drop rfl ?_)) ?_
    refine hwalk ?_
    refine k_appG (A := [bk false ob [.string dists[k]] 9]) (m := 1) (c := 1) (news := [.string dists[k]]) (ad := ⟨ob, 0, none⟩) rfl rfl rfl (fun w hw => Blk.cells (hw.blk 0 rfl)) rfl rfl rfl rfl (by rw [List.length_take]; omega) (by rw [List.length_take]; unfold maxLen; omega) ?_
    intro v'
    dsimp only [List.cons_append, List.nil_append]
    refine k_rowslice 1 rfl ?_
    rintro ⟨ea1, cap1, rfl⟩
    refine walk ?_
    refine k_round (k + 1, .slice ea1 ((dists.take k).length + 1) cap1) (by repeat (first | exact Sub.nil | refine Sub.cons rfl ?_)) (by dsimp only; rw [hsn, List.length_append, List.map_append]; repeat (first | exact SubO.nil | refine SubO.keep ?_ | refine SubO.drop rfl ?_)) ⟨by dsimp only; omega, by dsimp only; omega⟩ (by dsimp only; omega)
  · have hfin : dists.take k = dists.take 10 := by
      by_cases h : k < dists.length
      · rw [show k = 10 by omega]
      · rw [List.take_of_length_le (by omega), List.take_of_length_le (by omega)]
    rw [hfin]
    have hl10 : (dists.take 10).length ≤ 10 := by rw [List.length_take]; omega
    generalize dists.take 10 = l10 at hl10
    by_cases hlt : k < dists.length
    all_goals
      refine walk ?_
      refine k_heldS 15 [0, 1, 2, 3, 4, 5, 6, 7, 9, 10, 13, 8, 11, 12, 14] [row false (.slice ea0 l10.length cap0) l10.length (l10.map Value.string) 9 1, bk false xb [.string (cut nb 40), .string (cut pats 300), .int .i64 mb, .int .i64 dl, .slice ea0 l10.length cap0] 24, bk false rb [.string nb, .string pats, .int .i64 mb, .int .i64 dl, .slice ea dists.length cap] 24] (by repeat (first | exact SubO.nil | refine SubO.keep ?_ | refine SubO.drop rfl ?_)) (by kernel_rfl) (by kernel_rfl) ?_
      dsimp only [pickL, nth, List.drop]
      refine hwalk ?_
      refine kh_run rfl (k_lit0 rfl ?_)
      intro lb
      refine kh_back (by repeat (first | exact SubO.nil | refine SubO.keep ?_ | refine SubO.drop rfl ?_)) ?_
      refine kh_run rfl (k_appRowG (A := []) (m := l10.length) (ys := l10.map Value.string) rfl rfl rfl (fun w hw => rowNow_of_own (hw.row 1 rfl)) (by simp) (by simp [Value.oneCell']) rfl rfl (by omega) (by unfold maxLen; omega) ?_)
      intro v2
      rw [Nat.zero_add l10.length, List.nil_append]
      refine kh_back (by repeat (first | exact SubO.nil | refine SubO.keep ?_ | refine SubO.drop rfl ?_)) ?_
      refine k_rowslice 0 rfl ?_
      rintro ⟨ea2, cap2, rfl⟩
      refine kh_op rfl rfl (fun _ _ => ov_build (vs := [.string (cut nb 40), .string (cut pats 300), .int .i64 mb, .int .i64 dl, .slice ea2 l10.length cap2]) (cells := #[.string (cut nb 40), .string (cut pats 300), .int .i64 mb, .int .i64 dl, .slice ea2 l10.length cap2]) rfl (by kernel_rfl)) ?_
      refine hwalk ?_
      refine kh_run rfl (k_stE4 [.string (cut nb 40), .string (cut pats 300), .int .i64 mb, .int .i64 dl, .slice ea2 l10.length cap2] rfl rfl rfl rfl rfl rfl (by rfl) ?_)
      refine kh_back (by repeat (first | exact SubO.nil | refine SubO.keep ?_ | refine SubO.drop rfl ?_)) ?_
      refine kh_nil ?_
      refine k_stE3 [.string (cut nb 40), .string (cut pats 300), .int .i64 mb, .int .i64 dl, .slice ea0 l10.length cap0] rfl rfl rfl rfl rfl rfl (by rfl) ?_
      refine walk ?_
      exact k_retc (l := [.cell 2 26, .cell 3 24]) rfl (fun w hw => .cons (rv_agg 4 hw rfl rfl rfl) (.cons (rv_agg 3 hw rfl rfl rfl) .nil)) fun w hw => ⟨_, _, rfl, hw.sub (by repeat (first | exact SubO.nil | refine SubO.keep ?_ | refine SubO.drop rfl ?_))⟩
end Go.Proofs.YtddiecdoaggaaaaGreatDoor
