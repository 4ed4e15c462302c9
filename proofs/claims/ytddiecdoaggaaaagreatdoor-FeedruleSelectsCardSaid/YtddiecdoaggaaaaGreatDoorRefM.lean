/- The walk of the reference's Match. -/
import Derived.Test.YtddiecdoaggaaaaGreatDoorRefA
import Derived.Test.YtddiecdoaggaaaaGreatDoorWalk2
namespace Go.Proofs.YtddiecdoaggaaaaGreatDoor
open Go.RowKit

instance refM_i64 : TIntK Tryz.prog 3 .i64 := ⟨by kernel_rfl⟩
instance refM_u8 : TIntK Tryz.prog 5 .u8 := ⟨by kernel_rfl⟩
instance refM_a128 : TArr Tryz.prog 137 128 4 := ⟨by kernel_rfl⟩
/-- The slice v holds the reference's elements. -/
def RElemsAt (w : World) (v : Value) (els : List Elem) : Prop := RowAt w v 129 (els.map refC)
theorem RElemsAt.ext {w w' : World} {v : Value} {els : List Elem} (h : RElemsAt w v els) (hb : Below w.heap.size w w') : RElemsAt w' v els := RowAt.ext h hb
theorem RElemsAt.star {w : World} {b o len cap k : Nat} {els : List Elem} (h : RElemsAt w (.slice (some ⟨b, o, none⟩) len cap) els) (hk : k < els.length) : w.cell? ⟨b, o + k * 129 + 0, none⟩ = some (.bool els[k].repeats) := by
  obtain ⟨ea, c, he, hc⟩ := h
  obtain ⟨b', o', h1, h2⟩ := hc k (refC els[k]) (by rw [List.getElem?_map, List.getElem?_eq_getElem hk]; rfl)
  injection he with e1 e2 e3
  rw [← e1] at h1
  cases h1
  exact h2 0 _ rfl
theorem RElemsAt.set {w : World} {b o len cap k c : Nat} {els : List Elem} (h : RElemsAt w (.slice (some ⟨b, o, none⟩) len cap) els) (hk : k < els.length) (hc : c < 128) : w.cell? ⟨b, o + k * 129 + 1 + c, none⟩ = some (.bool (tabE els[k] c)) := by
  obtain ⟨ea, c', he, hcs⟩ := h
  obtain ⟨b', o', h1, h2⟩ := hcs k (refC els[k]) (by rw [List.getElem?_map, List.getElem?_eq_getElem hk]; rfl)
  injection he with e1 e2 e3
  rw [← e1] at h1
  cases h1
  have := h2 (c + 1) (.bool (tabE els[k] c)) (by unfold refC; rw [List.getElem?_cons_succ]; exact tbl_get hc)
  rw [show o + k * 129 + 1 + c = o + k * 129 + (c + 1) by omega]; exact this
theorem all_named {l : List UInt8} (h : ∀ j, j < l.length → namedB (byteAt l j) = true) : l.all namedB = true := by
  rw [List.all_eq_true]
  intro x hx
  obtain ⟨i, hi, rfl⟩ := List.getElem_of_mem hx
  have := h i hi
  unfold byteAt at this
  rw [List.getElem?_eq_getElem hi] at this
  exact this
theorem not_named {l : List UInt8} {j : Nat} (hj : j < l.length) (h : namedB (byteAt l j) = false) : l.all namedB = false := by
  rw [List.all_eq_false]
  refine ⟨l[j], List.getElem_mem _, ?_⟩
  unfold byteAt at h
  rw [List.getElem?_eq_getElem hj] at h
  simpa using h
theorem rowsF_take {els : List Elem} {k : Nat} (h : k < els.length) (name : List UInt8) : rowsF (els.take (k + 1)) name = nx els[k] name (rowsF (els.take k) name) := by
  rw [← rowsF_snoc, List.take_add_one]; simp [h]
theorem nx_rep {e : Elem} (h : e.repeats = true) (name : List UInt8) (can : Nat → Bool) (i : Nat) : nx e name can i = (can i || (decide (0 < i) && nx e name can (i - 1))) := by
  cases i with
  | zero => rw [nx, h]; simp
  | succ i => rw [nx, if_pos h]; simp
theorem nx_one {e : Elem} (h : e.repeats = false) (name : List UInt8) (can : Nat → Bool) {i : Nat} (hi : 0 < i) : nx e name can i = (can (i - 1) && tabE e (byteAt name (i - 1)).toNat) := by
  cases i with
  | zero => omega
  | succ i => rw [nx, if_neg (by simp [h])]; simp
set_option maxRecDepth 100000
attribute [local irreducible] K KS KLeft KRound J OV EV EU Blk wpList Code.wp bodyPost Exit.then Exit.inBlock Round Left Hid JS wpStill wpHeld Calls
attribute [local irreducible] namedB byteAt nx
set_option maxHeartbeats 2000000 in
theorem refMatch_any (text name : ByteArray) (v : Value) (els : List Elem) (r : World) (hE : RElemsAt r v els) (hs : name.size ≤ 281474976710655) (hn : els.length ≤ 1000000000) :
    Calls Tryz.prog 90 #[.agg #[.string text, v], .string name] r fun e w' => e = .returned (.bool (refMatch els name.data.toList)) ∧ Below r.heap.size r w' := by
  have hE' := hE
  obtain ⟨ea, cap, hv, hcs⟩ := hE'
  rw [List.length_map] at hv
  subst hv
  have hlen : name.data.toList.length = name.size := len_data name
  refine k_enter (N := 97) Tryz.func90 rfl rfl rfl ?_
  refine walkT ?_
  refine k_box (cs := [.string text, .slice ea els.length cap]) rfl rfl rfl ?_
  intro pb
  refine walkT ?_
  refine k_loop (σ := Nat) (fun k => [(1, .string name), (2, .pointer (some ⟨pb, 0, none⟩)), (5, .int .i64 k)]) (fun _ => [bk false pb [.string text, .slice ea els.length cap] 110]) (fun k => k ≤ name.size ∧ ∀ j, j < k → namedB (byteAt name.data.toList j) = true) (fun k => name.size - k) 0 (by repeat (first | exact Sub.nil | refine Sub.cons rfl ?_)) (by repeat (first | exact SubO.nil | refine SubO.keep ?_ | refine SubO.drop rfl ?_)) ⟨Nat.zero_le _, fun j h => by omega⟩ ?_
  rintro k ⟨hk, hall⟩
  by_cases hlt : k < name.size
  · refine walkT ?_
    refine k_callb (v := .bool (namedB (byteAt name.data.toList k))) (by kernel_rfl) rfl rfl (fun w hw => charN_any _ _ rfl w) ?_
    cases hN : namedB (byteAt name.data.toList k) with
    | true =>
      refine walkT ?_
      refine k_round (k + 1) (by repeat (first | exact Sub.nil | refine Sub.cons rfl ?_)) (by repeat (first | exact SubO.nil | refine SubO.keep ?_ | refine SubO.drop rfl ?_)) ⟨by omega, fun j hj => ?_⟩ (by omega)
      rcases Nat.lt_succ_iff_lt_or_eq.1 hj with h | h
      · exact hall j h
      · subst h; exact hN
    | false =>
      refine walkT ?_
      exact k_ret1 rfl rfl fun w hw => ⟨ret_bool (by unfold refMatch; rw [not_named (by omega) hN]; rfl), hw.below rfl⟩
  have hall' : name.data.toList.all namedB = true := all_named fun j hj => hall j (by omega)
  clear hall
  refine walkT ?_
  refine k_makeT (n := name.size + 1) rfl rfl rfl (by omega) ?_
  intro cb
  refine walkT ?_
  apply k_tA0; exact rfl; exact rfl; exact rfl; omega
  have e0 : tbl (name.size + 1) (fun j => if j = 0 then true else false) = tbl (name.size + 1) (rowsF (els.take 0) name.data.toList) := tbl_congr fun j _ => by
    show _ = decide (j = 0)
    by_cases h : j = 0 <;> simp [h]
  rw [e0]
  refine walkT ?_
  refine k_loop (σ := Nat × Nat) (fun s => [(1, .string name), (2, .pointer (some ⟨pb, 0, none⟩)), (6, .slice (some ⟨s.2, 0, none⟩) (name.size + 1) (name.size + 1)), (7, .int .i64 s.1)]) (fun s => [bk false s.2 (tbl (name.size + 1) (rowsF (els.take s.1) name.data.toList)) 4, bk false pb [.string text, .slice ea els.length cap] 110]) (fun s => s.1 ≤ els.length) (fun s => els.length - s.1) (0, cb) (by repeat (first | exact Sub.nil | refine Sub.cons rfl ?_)) (by repeat (first | exact SubO.nil | refine SubO.keep ?_ | refine SubO.drop rfl ?_)) (Nat.zero_le _) ?_
  rintro ⟨m, cb⟩ hm
  dsimp only at hm ⊢
  by_cases hlt2 : m < els.length
  · obtain ⟨b, o, rfl, -⟩ := hcs m (refC els[m]) (by rw [List.getElem?_map, List.getElem?_eq_getElem hlt2]; rfl)
    have hstar := hE.star hlt2
    have hset := fun c h => hE.set (c := c) hlt2 h
    have hnext := rowsF_take hlt2 name.data.toList
    generalize hcan : rowsF (els.take m) name.data.toList = can at hnext
    generalize els[m] = e at hstar hset hnext
    refine walkT ?_
    refine k_makeT (n := name.size + 1) rfl rfl rfl (by omega) ?_
    intro nb
    refine walkT ?_
    have e1 : tbl (name.size + 1) (fun _ => false) = tbl (name.size + 1) (fun j => decide (j < 0) && nx e name.data.toList can j) := tbl_congr fun j _ => by simp
    rw [e1]
    refine k_loop (σ := Nat) (fun i => [(1, .string name), (2, .pointer (some ⟨pb, 0, none⟩)), (6, .slice (some ⟨cb, 0, none⟩) (name.size + 1) (name.size + 1)), (7, .int .i64 m), (8, .slice (some ⟨nb, 0, none⟩) (name.size + 1) (name.size + 1)), (9, .int .i64 i)])
      (fun i => [bk false nb (tbl (name.size + 1) (fun j => decide (j < i) && nx e name.data.toList can j)) 4, bk false cb (tbl (name.size + 1) can) 4, bk false pb [.string text, .slice (some ⟨b, o, none⟩) els.length cap] 110]) (fun i => i ≤ name.size + 1) (fun i => name.size + 1 - i) 0 (by repeat (first | exact Sub.nil | refine Sub.cons rfl ?_)) (by repeat (first | exact SubO.nil | refine SubO.keep ?_ | refine SubO.drop rfl ?_)) (Nat.zero_le _) ?_
    intro i hi
    by_cases hlt3 : i < name.size + 1
    · refine walkT ?_
      have estep : ∀ c : Bool, c = nx e name.data.toList can i → tbl (name.size + 1) (fun j => if j = i then c else decide (j < i) && nx e name.data.toList can j) = tbl (name.size + 1) (fun j => decide (j < i + 1) && nx e name.data.toList can j) := fun c hc => tbl_congr fun j _ => by
        by_cases h : j = i
        · subst h; rw [if_pos rfl, hc]; simp
        · rw [if_neg h]; congr 1; rw [decide_eq_decide]; omega
      cases hst : e.repeats with
      | true =>
        rw [hst] at hstar
        refine walkT ?_
        refine k_guard rfl rfl rfl rfl ?_ ?_ <;> intro hb
        · refine walkT ?_
          apply k_tA0; exact rfl; exact rfl; exact rfl; omega
          rw [estep _ (by rw [nx_rep hst _ can i, hb]; rfl)]
          refine walkT ?_
          refine k_round (i + 1) (by repeat (first | exact Sub.nil | refine Sub.cons rfl ?_)) (by repeat (first | exact SubO.nil | refine SubO.keep ?_ | refine SubO.drop rfl ?_)) (by omega) (by omega)
        · by_cases h0 : 0 < i
          · refine walkT ?_
            apply k_tA0; exact rfl; exact rfl; exact rfl; omega
            rw [estep _ (by rw [nx_rep hst _ can i, hb, decide_eq_true h0, show decide (i - 1 < i) = true from decide_eq_true (by omega)]; rfl)]
            refine walkT ?_
            refine k_round (i + 1) (by repeat (first | exact Sub.nil | refine Sub.cons rfl ?_)) (by repeat (first | exact SubO.nil | refine SubO.keep ?_ | refine SubO.drop rfl ?_)) (by omega) (by omega)
          · refine walkT ?_
            apply k_tA0; exact rfl; exact rfl; exact rfl; omega
            rw [estep _ (by rw [nx_rep hst _ can i, hb, decide_eq_false h0]; rfl)]
            refine walkT ?_
            refine k_round (i + 1) (by repeat (first | exact Sub.nil | refine Sub.cons rfl ?_)) (by repeat (first | exact SubO.nil | refine SubO.keep ?_ | refine SubO.drop rfl ?_)) (by omega) (by omega)
      | false =>
        rw [hst] at hstar
        by_cases h0 : 0 < i
        · have hnm : namedB (byteAt name.data.toList (i - 1)) = true := by
            refine List.all_eq_true.1 hall' _ ?_
            rw [byteAt_eq name (i - 1) (by omega)]
            show name.data[i-1]'(by show i - 1 < name.size; omega) ∈ _
            simp
          have h128 := named_small hnm
          have hc1 := hset _ h128
          refine walkT ?_
          refine k_heldT 22 [0, 1, 2, 3, 4, 5, 6, 7, 8, 9, 10, 11, 12, 13, 14, 15, 16, 17, 18, 19, 20, 21] [bk false cb (tbl (name.size + 1) can) 4, bk false pb [.string text, .slice (some ⟨b, o, none⟩) els.length cap] 110] (by repeat (first | exact SubO.nil | refine SubO.keep ?_ | refine SubO.drop rfl ?_)) (by kernel_rfl) (by kernel_rfl) ?_
          dsimp only [pickL, nth, List.drop]
          refine hwalkT ?_
          cases hb : can (i - 1) with
          | true =>
            refine hwalkT ?_
            refine kh_run rfl ?_
            apply k_tA0; exact rfl; exact rfl; exact rfl; omega
            rw [estep _ (by rw [nx_one hst _ can h0, hb]; rfl)]
            refine kh_back (by repeat (first | exact SubO.nil | refine SubO.keep ?_ | refine SubO.drop rfl ?_)) ?_
            refine hwalkT ?_
            refine walkT ?_
            refine k_round (i + 1) (by repeat (first | exact Sub.nil | refine Sub.cons rfl ?_)) (by repeat (first | exact SubO.nil | refine SubO.keep ?_ | refine SubO.drop rfl ?_)) (by omega) (by omega)
          | false =>
            refine hwalkT ?_
            refine kh_run rfl ?_
            apply k_tA0; exact rfl; exact rfl; exact rfl; omega
            rw [estep _ (by rw [nx_one hst _ can h0, hb]; rfl)]
            refine kh_back (by repeat (first | exact SubO.nil | refine SubO.keep ?_ | refine SubO.drop rfl ?_)) ?_
            refine hwalkT ?_
            refine walkT ?_
            refine k_round (i + 1) (by repeat (first | exact Sub.nil | refine Sub.cons rfl ?_)) (by repeat (first | exact SubO.nil | refine SubO.keep ?_ | refine SubO.drop rfl ?_)) (by omega) (by omega)
        · have e3 : tbl (name.size + 1) (fun j => decide (j < i) && nx e name.data.toList can j) = tbl (name.size + 1) (fun j => decide (j < i + 1) && nx e name.data.toList can j) := tbl_congr fun j _ => by
            by_cases h : j = 0
            · subst h; rw [nx, hst]; simp
            · congr 1; rw [decide_eq_decide]; omega
          rw [e3]
          refine walkT ?_
          refine k_round (i + 1) (by repeat (first | exact Sub.nil | refine Sub.cons rfl ?_)) (by repeat (first | exact SubO.nil | refine SubO.keep ?_ | refine SubO.drop rfl ?_)) (by omega) (by omega)
    · have e2 : tbl (name.size + 1) (fun j => decide (j < i) && nx e name.data.toList can j) = tbl (name.size + 1) (nx e name.data.toList can) := tbl_congr fun j hj => by
        rw [show decide (j < i) = true from decide_eq_true (by omega)]; rfl
      rw [e2]
      refine walkT ?_
      refine k_round (m + 1, nb) (by repeat (first | exact Sub.nil | refine Sub.cons rfl ?_)) (by dsimp only; rw [hnext]; repeat (first | exact SubO.nil | refine SubO.keep ?_ | refine SubO.drop rfl ?_)) (by dsimp only; omega) (by dsimp only; omega)
  · have hmm : m = els.length := by omega
    subst hmm
    rw [List.take_length]
    refine walkT ?_
    exact k_ret1 rfl rfl fun w hw => ⟨ret_bool (by unfold refMatch; rw [hall', hlen]; rfl), hw.below rfl⟩
end Go.Proofs.YtddiecdoaggaaaaGreatDoor
