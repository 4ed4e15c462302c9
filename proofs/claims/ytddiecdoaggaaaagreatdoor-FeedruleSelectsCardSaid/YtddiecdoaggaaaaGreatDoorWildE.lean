/- Elements of patterns behind an interface; the walk of enter. -/
import Derived.Test.YtddiecdoaggaaaaGreatDoorWild
import Derived.Test.YtddiecdoaggaaaaGreatDoorTypes
import Derived.Test.YtddiecdoaggaaaaGreatDoorWalkJ
namespace Go.Proofs.YtddiecdoaggaaaaGreatDoor
open Go.RowKit

def Elem.val : Elem → Value
  | .one c => .iface 129 (.int .u8 c.toNat)
  | .cls set inv => .iface 131 (.agg #[.string set, .bool inv])
  | .star => .iface 133 (.agg #[])

def reps (els : List Elem) (i : Nat) : Bool := match els[i]? with
  | some e => e.repeats
  | none => false
def enterL (els : List Elem) : Nat → List Bool → Nat → List Bool
  | 0, bs, i => bs.set i true
  | f + 1, bs, i => if reps els i then enterL els f (bs.set i true) (i + 1) else bs.set i true
/-- What enter leaves of a set of positions. -/
def enterP (els : List Elem) (bs : List Bool) (i : Nat) : List Bool := enterL els (els.length - i) bs i
theorem enterL_set (els : List Elem) : ∀ (f : Nat) (bs : List Bool) (i : Nat), enterL els f (bs.set i true) i = enterL els f bs i := by
  intro f bs i
  cases f <;> simp [enterL, List.set_set]
theorem enterL_zero (els : List Elem) (bs : List Bool) (i : Nat) : enterL els 0 bs i = bs.set i true := rfl
theorem enterL_step {els : List Elem} {k : Nat} {bs : List Bool} (h : k < els.length) (hr : els[k].repeats = true) : enterL els (els.length - k) bs k = enterL els (els.length - (k + 1)) (bs.set k true) (k + 1) := by
  rw [show els.length - k = (els.length - (k + 1)) + 1 by omega, enterL, if_pos (by simp [reps, h, hr])]
theorem enterL_stop {els : List Elem} {k : Nat} {bs : List Bool} (h : k < els.length) (hr : els[k].repeats = false) : enterL els (els.length - k) bs k = bs.set k true := by
  rw [show els.length - k = (els.length - (k + 1)) + 1 by omega, enterL, if_neg (by simp [reps, h, hr])]
theorem enterL_len (els : List Elem) : ∀ (f : Nat) (bs : List Bool) (i : Nat), (enterL els f bs i).length = bs.length := by
  intro f
  induction f with
  | zero => intro bs i; simp [enterL]
  | succ f ih => intro bs i; unfold enterL; split <;> simp [ih]

/-- The slice v holds the elements. -/
def ElemsAt (w : World) (v : Value) (els : List Elem) : Prop := ∃ ea cap, v = .slice ea els.length cap ∧ (∀ a, ea = some a → BlkT w a.block 178) ∧ ∀ i e, els[i]? = some e → ∃ eb, ea = some ⟨eb, 0, none⟩ ∧ w.cell? ⟨eb, i, none⟩ = some e.val
/-- Block pb holds the pattern. -/
structure PatAt (w : World) (pb : Nat) (text : ByteArray) (els : List Elem) : Prop where
  text : w.cell? ⟨pb, 0, none⟩ = some (.string text)
  elems : ∃ v, w.cell? ⟨pb, 1, none⟩ = some v ∧ ElemsAt w v els
  ty : BlkT w pb 128
theorem ElemsAt.keep {w w' : World} {v : Value} {els : List Elem} {row : Option Nat} (h : ElemsAt w v els) (hg : w.grownBy w' row) (hr : ∀ g, row = some g → ∃ t, BlkT w g t ∧ t ≠ 178) : ElemsAt w' v els := by
  obtain ⟨ea, cap, hv, hl, he⟩ := h
  have hne : ∀ a, ea = some a → some a.block ≠ row := fun a ha e => by
    obtain ⟨t, h1, h2⟩ := hr _ e.symm
    exact (hl a ha).ne h1 (Ne.symm h2) rfl
  exact ⟨ea, cap, hv, fun a ha => (hl a ha).keep hg (hne a ha), fun i e hi => by obtain ⟨eb, h1, h2⟩ := he i e hi; exact ⟨eb, h1, cell_grown hg h2 (hne ⟨eb, 0, none⟩ h1)⟩⟩
theorem PatAt.keep {w w' : World} {pb : Nat} {text : ByteArray} {els : List Elem} {row : Option Nat} (h : PatAt w pb text els) (hg : w.grownBy w' row) (hr : ∀ g, row = some g → ∃ t, BlkT w g t ∧ t ≠ 178 ∧ t ≠ 128) : PatAt w' pb text els := by
  have hne : some pb ≠ row := fun e => by
    obtain ⟨t, h1, _, h2⟩ := hr _ e.symm
    exact h.ty.ne h1 (Ne.symm h2) rfl
  exact ⟨cell_grown hg h.text hne, by obtain ⟨v, h1, h2⟩ := h.elems; exact ⟨v, cell_grown hg h1 hne, h2.keep hg (fun g e => by obtain ⟨t, h1, h2, _⟩ := hr g e; exact ⟨t, h1, h2⟩)⟩, h.ty.keep hg hne⟩
theorem ElemsAt.ext {w w' : World} {v : Value} {els : List Elem} (h : ElemsAt w v els) (hb : Below w.heap.size w w') : ElemsAt w' v els := h.keep (row := none) (grownBy_of_below hb) (by simp)
theorem PatAt.ext {w w' : World} {pb : Nat} {text : ByteArray} {els : List Elem} (h : PatAt w pb text els) (hb : Below w.heap.size w w') : PatAt w' pb text els := h.keep (row := none) (grownBy_of_below hb) (by simp)

section
variable {N : Nat} {env : Env} {w : World} {Q : Exit → Act → World → Prop} {ops : Array Oper} {rest : List Oper} {d : Nat} {ty : TypeId} {pos : String} {after : Array Edge}
theorem j_repeats {r : Operand} (e : Elem) (hd : Nat.blt d N = true) (hr : evx env r = some e.val)
    (h : ∀ w', Below w.heap.size w w' → J N ((d, .bool e.repeats) :: env) w' (wpList Tryz.prog ops Q rest)) :
    J N env w (wpList Tryz.prog ops Q (⟨some d, .call { callee := .invoke r "bulletin/wildmat.repeats", args := #[], argTypes := #[] }, ty, pos, after, none⟩ :: rest)) := by
  cases e with
  | one c => exact j_invoke (fun _ => by kernel_rfl) (by kernel_rfl) hd hr rfl (oneRepeats_any c.toNat w) (fun e w' ⟨he, hw⟩ => ⟨_, he, h w' (hw ▸ Below.refl _ _)⟩)
  | cls set inv => exact j_invoke (fun _ => by kernel_rfl) (by kernel_rfl) hd hr rfl (classRepeats_any set inv w) (fun e w' ⟨he, hw⟩ => ⟨_, he, h w' hw⟩)
  | star => exact j_invoke (fun _ => by kernel_rfl) (by kernel_rfl) hd hr rfl (starRepeats_any w) (fun e w' ⟨he, hw⟩ => ⟨_, he, h w' hw⟩)
end

attribute [local irreducible] J OV EV EU Blk wpList Code.wp bodyPost Exit.then Exit.inBlock Round Left Hid JS wpStill
attribute [local irreducible] Elem.val Elem.repeats reps enterL
theorem enter_any (pb sb cap : Nat) (text : ByteArray) (els : List Elem) (bs : List Bool) (i : Nat) (w : World) (hp : PatAt w pb text els) (hb : Blk w sb (bs.map Value.bool) 4) (hne : sb ≠ pb) (hsb : ∀ v, w.cell? ⟨pb, 1, none⟩ = some v → v.ownBlock ≠ some sb) {n : Nat} {iv : Int} (hn : bs.length = els.length + 1) (hn' : n = bs.length) (hiv : iv = (i : Int)) (hi : i ≤ els.length) (hsm : els.length ≤ 2000000) :
    Calls Tryz.prog 105 #[.pointer (some ⟨pb, 0, none⟩), .slice (some ⟨sb, 0, none⟩) n cap, .int .i64 iv] w fun e w' => e = .returned (.tuple #[]) ∧ Blk w' sb ((enterP els bs i).map Value.bool) 4 ∧ w.grownBy w' (some sb) := by
  subst hn' hiv
  refine j_enter (N := 31) Tryz.func105 rfl rfl rfl ?_
  obtain ⟨v, hv, ea, cap', rfl, _, hels⟩ := hp.elems
  refine jwalk ?_
  refine j_store1 rfl rfl hb rfl (by simp; omega) ?_
  intro w1 hb1 hg1 hz1
  have hb1' : Blk w1 sb ((bs.set i true).map Value.bool) 4 := by rw [List.map_set]; simpa using hb1
  clear hb1
  refine jwalk ?_
  refine j_loop (σ := Nat × List Bool) (fun s => [(0, .pointer (some ⟨pb, 0, none⟩)), (1, .slice (some ⟨sb, 0, none⟩) bs.length cap), (2, .int .i64 s.1)]) (fun s w' => s.1 ≤ els.length ∧ Blk w' sb (s.2.map Value.bool) 4 ∧ s.2.length = bs.length ∧ w.grownBy w' (some sb) ∧ enterL els (els.length - s.1) s.2 s.1 = enterP els bs i ∧ s.2.set s.1 true = s.2) (fun s => els.length - s.1) (i, bs.set i true) (Sub.cons rfl (Sub.cons rfl (Sub.cons rfl Sub.nil))) ⟨hi, hb1', by simp, hg1, enterL_set _ _ _ _, by simp⟩ ?_
  intro s w2 h
  obtain ⟨k, cs⟩ := s
  dsimp only at h ⊢
  obtain ⟨hk, hb2, hlen, hg2, hE, hset⟩ := h
  have hv2 := cell_grown hg2 hv (by simp; omega)
  refine jwalk ?_
  refine j_op rfl (ov_load1 rfl hv2) ?_
  by_cases hlt : k < els.length
  · obtain ⟨eb, rfl, hc⟩ := hels k els[k] (by simp [hlt])
    have hc2 := cell_grown hg2 hc (by have := hsb _ hv; simpa [Value.ownBlock] using this)
    refine jwalk ?_
    refine j_op rfl (ov_load1 rfl hv2) ?_
    refine jwalk ?_
    refine j_op rfl (ov_load1 rfl hc2) ?_
    refine jwalk ?_
    refine j_repeats els[k] rfl rfl ?_
    intro w3 hx3
    have hb3 := hb2.ext hx3
    have hg3 : w.grownBy w3 (some sb) := hg2.trans (grownBy_of_below hx3)
    refine jwalk ?_
    refine j_cond rfl ?_ ?_ <;> intro hr
    · refine jwalk ?_
      refine j_store1 rfl rfl hb3 rfl (by simp; omega) ?_
      intro w4 hb4 hg4 hz4
      have hb4' : Blk w4 sb ((cs.set (k + 1) true).map Value.bool) 4 := by rw [List.map_set]; exact hb4
      refine jwalk ?_
      refine j_round (k + 1, cs.set (k + 1) true) (Sub.cons rfl (Sub.cons rfl (Sub.cons rfl Sub.nil))) ⟨by omega, hb4', by simp; omega, hg3.trans hg4, ?_, by simp⟩ (by simp; omega)
      dsimp only
      rw [enterL_set, ← hE, enterL_step hlt hr, hset]
    · refine jwalk ?_
      refine j_ret0 rfl ⟨rfl, ?_, hg3⟩
      rw [← hE, enterL_stop hlt hr, hset]; exact hb3
  · refine jwalk ?_
    refine j_ret0 rfl ⟨rfl, ?_, hg2⟩
    rw [← hE, show els.length - k = 0 by omega]
    rw [enterL_zero, hset]; exact hb2

end Go.Proofs.YtddiecdoaggaaaaGreatDoor
