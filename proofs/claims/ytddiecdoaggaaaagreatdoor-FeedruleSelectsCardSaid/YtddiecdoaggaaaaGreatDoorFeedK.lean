/- The walk of known. -/
import Derived.Test.YtddiecdoaggaaaaGreatDoorFeedD
import Derived.Test.YtddiecdoaggaaaaGreatDoorFeedQ
import Derived.Test.YtddiecdoaggaaaaGreatDoorKG
namespace Go.Proofs.YtddiecdoaggaaaaGreatDoor
open Go.RowKit

def kB : ByteArray := ⟨#[98]⟩
def kPats : ByteArray := ⟨#[99, 111, 109, 112, 46, 42, 44, 64, 42, 46, 98, 105, 110]⟩
def kWorld : ByteArray := ⟨#[119, 111, 114, 108, 100]⟩
def kOs : ByteArray := ⟨#[99, 111, 109, 112, 46, 111, 115]⟩
def kBin : ByteArray := ⟨#[99, 111, 109, 112, 46, 98, 105, 110]⟩
def kLocal : ByteArray := ⟨#[108, 111, 99, 97, 108]⟩
def kC : ByteArray := ⟨#[99]⟩
def kE : ByteArray := ⟨#[]⟩
def z32 : List Value := List.replicate 32 (.int .u8 0)
theorem strs_of_blk {w : World} {b n : Nat} {l : List ByteArray} (h : Blk w b (l.map Value.string) 9) (hn : n = l.length) : StrsAt w (.slice (some ⟨b, 0, none⟩) n n) l := by
  subst hn
  refine ⟨_, _, rfl, ⟨Nat.le_refl _, fun a ha => by cases ha; exact h.lt⟩, fun i s hs => ⟨b, 0, rfl, ?_⟩⟩
  have := h.cell (i := i) (v := .string s) (by simp [hs])
  simpa using this
theorem known_check : checkP kB.data.toList kPats.data.toList 1000 10 [kWorld] = 0 := by decide +kernel
def kReasons (items : List (Nat × List Elem)) : Bool :=
  decide (reasonP kB 1000 [kWorld] items [kOs] kE 1000 false kC = 0) && decide (reasonP kB 1000 [kWorld] items [kOs] kE 1000 false kB = 1) && decide (reasonP kB 1000 [kWorld] items [kOs, kBin] kE 1000 false kC = 2)
  && decide (reasonP kB 1000 [kWorld] items [kOs] kE 1001 false kC = 3) && decide (reasonP kB 1000 [kWorld] items [kOs] kLocal 1000 false kC = 4) && decide (reasonP kB 1000 [kWorld] items [kBin] kE 5000 true kC = 0)
theorem known_reasons : (match parseP kPats.data.toList with | .inl items => kReasons items | .inr _ => false) = true := by decide +kernel

theorem blk_keep {r w : World} {b : Nat} {cs : List Value} {t : TypeId} (h : Blk r b cs t) (hb : Below r.heap.size r w) : Blk w b cs t := h.ext hb
set_option maxRecDepth 100000
attribute [local irreducible] K KS KLeft KRound J OV EV EU Blk wpList Code.wp bodyPost Exit.then Exit.inBlock Round Left Hid JS wpStill wpHeld Calls
attribute [local irreducible] checkP parseP reasonP
set_option maxHeartbeats 4000000 in
theorem known_any (m : Int) (r : World) (hm : r.cell? ⟨0, 0, none⟩ = some (.int .i64 m)) : Calls Tryz.prog 6 #[] r fun e w' => e = .returned (.bool true) ∧ Below r.heap.size r w' := by
  refine k_enter (N := 120) Tryz.func6 rfl rfl rfl ?_
  refine walk ?_
  refine k_lit (vs := [.string kWorld]) rfl rfl rfl rfl rfl rfl rfl ?_
  intro b0
  refine k_op rfl (fun _ _ => ov_build (vs := [.string kB, .string kPats, .int .i64 1000, .int .i64 10, .slice (some ⟨b0, 0, none⟩) 1 1]) (cells := #[.string kB, .string kPats, .int .i64 1000, .int .i64 10, .slice (some ⟨b0, 0, none⟩) 1 1]) rfl (by kernel_rfl)) ?_
  refine k_call (by kernel_rfl) rfl rfl (fun w hw => feedCompile_any kB kPats 1000 10 (.slice (some ⟨b0, 0, none⟩) 1 1) [kWorld] m w (by decide) (by decide) (strs_of_blk (hw.blk 0 rfl) rfl) (by decide) (by decide) (cell_ext (hw.below rfl) hm)) ?_
  rintro w e w1 hw ⟨hx1, -, hyes⟩
  obtain ⟨fb, items, hP, -, hF, rfl⟩ := hyes known_check
  have hR := known_reasons
  rw [hP] at hR
  simp only [kReasons, Bool.and_eq_true, decide_eq_true_eq] at hR
  obtain ⟨⟨⟨⟨⟨hR1, hR2⟩, hR3⟩, hR4⟩, hR5⟩, hR6⟩ := hR
  refine ⟨_, rfl, ?_⟩
  have hB1 := (hw.ext hx1).below rfl
  refine j_of_k (Sat.refl w1) ?_
  refine walk ?_
  refine k_lit (vs := [.string kOs]) rfl rfl rfl rfl rfl rfl rfl ?_
  intro b1
  refine k_op rfl (fun _ _ => ov_build (vs := [.slice (some ⟨b1, 0, none⟩) 1 1, .int .i64 1000, .string kC, .int .i64 5]) (cells := (fitemC z32 (.slice (some ⟨b1, 0, none⟩) 1 1) kE 1000 false kC 5).toArray) rfl (by kernel_rfl)) ?_
  refine k_alloc (cs := z32 ++ [.slice none 0 0, .string ⟨#[]⟩, .int .i64 0, .bool false, .string ⟨#[]⟩, .int .i64 0]) rfl rfl ?_
  intro b3
  refine k_stE0 (fitemC z32 (.slice (some ⟨b1, 0, none⟩) 1 1) kE 1000 false kC 5) rfl rfl rfl rfl rfl rfl rfl ?_
  refine walk ?_
  refine k_callb (v := .tuple #[.int .i64 15, .bool true]) (by kernel_rfl) rfl rfl (fun w hw => (due_any (hF.ext (hw.below rfl)) rfl (strs_of_blk (l := [kOs]) (hw.blk 1 rfl) rfl) (by decide) (by decide) (by decide) (by decide) (by decide) (by decide)).mono fun e w' h => ⟨by rw [h.1, hR1]; rfl, h.2⟩) ?_
  refine walk ?_
  refine k_heldG 14 25 [[0], [1], [2], [3], [4], [5, 6, 7, 8, 9], [10], [11], [12], [13]] (by kernel_rfl) (by kernel_rfl) ?_
  refine gwalk ?_
  apply kg_next
  refine kg_allocs [[10], [11], [12], [13]] 3 [⟨5, 6, 55, z32 ++ [.slice none 0 0, .string ⟨#[]⟩, .int .i64 0, .bool false, .string ⟨#[]⟩, .int .i64 0]⟩, ⟨6, 7, 55, z32 ++ [.slice none 0 0, .string ⟨#[]⟩, .int .i64 0, .bool false, .string ⟨#[]⟩, .int .i64 0]⟩, ⟨7, 8, 55, z32 ++ [.slice none 0 0, .string ⟨#[]⟩, .int .i64 0, .bool false, .string ⟨#[]⟩, .int .i64 0]⟩, ⟨8, 9, 55, z32 ++ [.slice none 0 0, .string ⟨#[]⟩, .int .i64 0, .bool false, .string ⟨#[]⟩, .int .i64 0]⟩, ⟨9, 10, 55, z32 ++ [.slice none 0 0, .string ⟨#[]⟩, .int .i64 0, .bool false, .string ⟨#[]⟩, .int .i64 0]⟩] 9 _ _ rfl (by decide) (by decide) ?_ (fun _ hw => hw) ?_
  · intro m hm
    simp only [List.mem_cons, List.not_mem_nil, or_false] at hm
    rcases hm with rfl | rfl | rfl | rfl | rfl <;> exact Mk.fits_of rfl rfl rfl
  intro bs
  dsimp only [List.map, Mk.sl, Mk.own, List.cons_append, List.nil_append]
  apply kg_next
  refine kg_run rfl rfl ?_
  refine k_stE0 (fitemC z32 (.slice (some ⟨b1, 0, none⟩) 1 1) kE 1000 false kC 5) rfl rfl rfl rfl rfl rfl rfl ?_
  refine kg_back (by repeat (first | exact SubO.nil | refine SubO.keep ?_ | refine SubO.drop rfl ?_)) ?_
  apply kg_next
  refine kg_run rfl rfl ?_
  refine k_stE1 (fitemC z32 (.slice (some ⟨b1, 0, none⟩) 1 1) kE 1000 false kC 5) rfl rfl rfl rfl rfl rfl rfl ?_
  refine kg_back (by repeat (first | exact SubO.nil | refine SubO.keep ?_ | refine SubO.drop rfl ?_)) ?_
  apply kg_next
  refine kg_run rfl rfl ?_
  refine k_stE2 (fitemC z32 (.slice (some ⟨b1, 0, none⟩) 1 1) kE 1000 false kC 5) rfl rfl rfl rfl rfl rfl rfl ?_
  refine kg_back (by repeat (first | exact SubO.nil | refine SubO.keep ?_ | refine SubO.drop rfl ?_)) ?_
  apply kg_next
  refine kg_run rfl rfl ?_
  refine k_stE3 (fitemC z32 (.slice (some ⟨b1, 0, none⟩) 1 1) kE 1000 false kC 5) rfl rfl rfl rfl rfl rfl rfl ?_
  refine kg_back (by repeat (first | exact SubO.nil | refine SubO.keep ?_ | refine SubO.drop rfl ?_)) ?_
  apply kg_end
  dsimp only [pickL, nth, List.drop]
  refine k_stE4 (fitemC z32 (.slice (some ⟨b1, 0, none⟩) 1 1) kE 1000 false kC 5) rfl rfl rfl rfl rfl rfl rfl ?_
  refine walk ?_
  refine k_lit (vs := [.string kOs, .string kBin]) rfl rfl rfl rfl rfl rfl rfl ?_
  intro b4
  refine walk ?_
  refine k_lit (vs := [.string kBin]) rfl rfl rfl rfl rfl rfl rfl ?_
  intro b5
  refine walk ?_
  refine k_callp (val := fun b => .tuple #[.pointer (some ⟨b, 0, none⟩), .int .i64 0]) (cs := quo 100 (-1) 0) (t := 100) (by kernel_rfl) rfl rfl (fun w hw => (newQuota_yes 100 w (by decide) (by decide)).mono fun e w' ⟨b, h1, h2, h3, h4⟩ => ⟨b, h1, h2, h3, h4⟩) ?_
  intro qb
  refine walk ?_
  refine k_callm0 (v := .int .i64 0) (cs' := quo 100 0 60) (by kernel_rfl) rfl rfl rfl (fun w hw => (take_any qb 100 (-1) 0 60 0 w (by decide) (by decide) (by decide) (hw.blk 0 rfl)).mono fun e w' h => by rw [show takeP 100 (-1) 0 60 0 = (0, 0, 60) by decide] at h; exact h) ?_
  refine walk ?_
  refine k_callm0 (v := .int .i64 9) (cs' := quo 100 0 60) (by kernel_rfl) rfl rfl rfl (fun w hw => (take_any qb 100 0 60 41 1439 w (by decide) (by decide) (by decide) (hw.blk 0 rfl)).mono fun e w' h => by rw [show takeP 100 0 60 41 1439 = (9, 0, 60) by decide] at h; exact h) ?_
  refine walk ?_
  refine k_callm0 (v := .int .i64 0) (cs' := quo 100 1 41) (by kernel_rfl) rfl rfl rfl (fun w hw => (take_any qb 100 0 60 41 1440 w (by decide) (by decide) (by decide) (hw.blk 0 rfl)).mono fun e w' h => by rw [show takeP 100 0 60 41 1440 = (0, 1, 41) by decide] at h; exact h) ?_
  refine walk ?_
  refine k_callb (v := .int .i64 0) (by kernel_rfl) rfl rfl (fun w hw => (reason_any (ic := z32) (gv := .slice (some ⟨b1, 0, none⟩) 1 1) (d := kE) (n := 1000) (c := false) (f := kC) (a := 5) (hF.ext (hw.below rfl)) rfl (strs_of_blk (l := [kOs]) (hw.blk 9 rfl) rfl) (by decide) (by decide) (by decide)).mono fun e w' h => ⟨by rw [h.1, hR1], h.2⟩) ?_
  refine walk ?_
  refine k_callb (v := .int .i64 1) (by kernel_rfl) rfl rfl (fun w hw => (reason_any (ic := z32) (gv := .slice (some ⟨b1, 0, none⟩) 1 1) (d := kE) (n := 1000) (c := false) (f := kB) (a := 5) (hF.ext (hw.below rfl)) rfl (strs_of_blk (l := [kOs]) (hw.blk 9 rfl) rfl) (by decide) (by decide) (by decide)).mono fun e w' h => ⟨by rw [h.1, hR2], h.2⟩) ?_
  refine walk ?_
  refine k_callb (v := .int .i64 2) (by kernel_rfl) rfl rfl (fun w hw => (reason_any (ic := z32) (gv := .slice (some ⟨b4, 0, none⟩) 2 2) (d := kE) (n := 1000) (c := false) (f := kC) (a := 5) (hF.ext (hw.below rfl)) rfl (strs_of_blk (l := [kOs, kBin]) (hw.blk 2 rfl) rfl) (by decide) (by decide) (by decide)).mono fun e w' h => ⟨by rw [h.1, hR3], h.2⟩) ?_
  refine walk ?_
  refine k_callb (v := .int .i64 3) (by kernel_rfl) rfl rfl (fun w hw => (reason_any (ic := z32) (gv := .slice (some ⟨b1, 0, none⟩) 1 1) (d := kE) (n := 1001) (c := false) (f := kC) (a := 5) (hF.ext (hw.below rfl)) rfl (strs_of_blk (l := [kOs]) (hw.blk 9 rfl) rfl) (by decide) (by decide) (by decide)).mono fun e w' h => ⟨by rw [h.1, hR4], h.2⟩) ?_
  refine walk ?_
  refine k_callb (v := .int .i64 4) (by kernel_rfl) rfl rfl (fun w hw => (reason_any (ic := z32) (gv := .slice (some ⟨b1, 0, none⟩) 1 1) (d := kLocal) (n := 1000) (c := false) (f := kC) (a := 5) (hF.ext (hw.below rfl)) rfl (strs_of_blk (l := [kOs]) (hw.blk 9 rfl) rfl) (by decide) (by decide) (by decide)).mono fun e w' h => ⟨by rw [h.1, hR5], h.2⟩) ?_
  refine walk ?_
  refine k_callb (v := .int .i64 0) (by kernel_rfl) rfl rfl (fun w hw => (reason_any (ic := z32) (gv := .slice (some ⟨b5, 0, none⟩) 1 1) (d := kE) (n := 5000) (c := true) (f := kC) (a := 5) (hF.ext (hw.below rfl)) rfl (strs_of_blk (l := [kBin]) (hw.blk 1 rfl) rfl) (by decide) (by decide) (by decide)).mono fun e w' h => ⟨by rw [h.1, hR6], h.2⟩) ?_
  refine walk ?_
  refine k_callb (v := .int .i64 59) (by kernel_rfl) rfl rfl (fun w hw => (left_any qb 100 1 41 1440 w (by decide) (by decide) (by decide) (by decide) (hw.blk 0 rfl)).mono fun e w' h => ⟨by rw [h.1]; rfl, h.2⟩) ?_
  refine walk ?_
  exact k_ret1 rfl rfl fun w hw => ⟨rfl, hB1.trans ((hw.below rfl).mono hB1.size)⟩
end Go.Proofs.YtddiecdoaggaaaaGreatDoor
