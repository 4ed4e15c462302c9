/- The walk of Match. -/
import Derived.Test.YtddiecdoaggaaaaGreatDoorWildE
namespace Go.Proofs.YtddiecdoaggaaaaGreatDoor
open Go.RowKit

/-- The positions behind a character, when i elements have been looked at. -/
def innerL (els : List Elem) (bs : List Bool) (c : UInt8) : Nat → List Bool
  | 0 => List.replicate (els.length + 1) false
  | i + 1 => match els[i]? with
    | some e => if bs[i]?.getD false && e.has c then enterP els (innerL els bs c i) (if e.repeats then i else i + 1) else innerL els bs c i
    | none => innerL els bs c i
def matchL (els : List Elem) : List UInt8 → List Bool → List Bool
  | [], bs => bs
  | c :: l, bs => matchL els l (innerL els bs c els.length)
def startL (els : List Elem) : List Bool := enterP els (List.replicate (els.length + 1) false) 0
/-- Does the pattern match? -/
def matchP (els : List Elem) (name : List UInt8) : Bool := (matchL els name (startL els))[els.length]?.getD false
theorem innerL_len (els : List Elem) (bs : List Bool) (c : UInt8) (i : Nat) : (innerL els bs c i).length = els.length + 1 := by
  induction i with
  | zero => simp [innerL]
  | succ i ih => unfold innerL; split <;> (try split) <;> simp [enterP, enterL_len, ih]
theorem matchL_len (els : List Elem) : ∀ (l : List UInt8) (bs : List Bool), bs.length = els.length + 1 → (matchL els l bs).length = els.length + 1 := by
  intro l
  induction l with
  | nil => intro bs h; exact h
  | cons c l ih => intro bs _; exact ih _ (innerL_len els bs c _)
theorem startL_len (els : List Elem) : (startL els).length = els.length + 1 := by simp [startL, enterP, enterL_len]
theorem matchL_drop (els : List Elem) (s : ByteArray) (k : Nat) (h : k < s.size) (bs : List Bool) : matchL els (s.data.toList.drop k) bs = matchL els (s.data.toList.drop (k + 1)) (innerL els bs s[k] els.length) := by
  have e : s.data.toList.drop k = s[k] :: s.data.toList.drop (k + 1) := by
    rw [List.drop_eq_getElem_cons (by simpa using h)]; rfl
  rw [e]; rfl
theorem innerL_yes {els : List Elem} {bs : List Bool} {c : UInt8} {i : Nat} (h : i < els.length) (hb : bs[i]?.getD false = true) (hh : els[i].has c = true) : innerL els bs c (i + 1) = enterP els (innerL els bs c i) (if els[i].repeats then i else i + 1) := by
  rw [innerL]; simp [h, hb, hh]
theorem innerL_no {els : List Elem} {bs : List Bool} {c : UInt8} {i : Nat} (h : i < els.length) (hb : (bs[i]?.getD false && els[i].has c) = false) : innerL els bs c (i + 1) = innerL els bs c i := by
  rw [innerL]; simp only [List.getElem?_eq_getElem h]; rw [if_neg (by rw [hb]; exact Bool.false_ne_true)]
theorem made_false (n : Nat) : (madeCells (Value.bool false).cells (n * 1)).toList = (List.replicate n false).map Value.bool := by
  rw [Nat.mul_one]
  apply List.ext_getElem
  · simp [madeCells]
  · intro k h1 h2
    simp [madeCells, Value.cells, Nat.mod_one]

section
variable {N : Nat} {env : Env} {w : World} {Q : Exit → Act → World → Prop} {ops : Array Oper} {rest : List Oper} {d : Nat} {ty : TypeId} {pos : String} {after : Array Edge}
theorem classHas_any (set : ByteArray) (inv : Bool) (c : UInt8) (w : World) : Calls Tryz.prog 128 #[.agg #[.string set, .bool inv], .int .u8 c.toNat] w fun e w' => e = .returned (.bool (Elem.has (.cls set inv) c)) ∧ Below w.heap.size w w' := by
  rcases h : namedB c with _ | _
  · simpa [Elem.has, h] using classHas_no set inv c w (Lib.hid h)
  · simpa [Elem.has, h] using classHas_yes set inv c w (Lib.hid h)
theorem j_has {r x : Operand} (e : Elem) (c : UInt8) (hd : Nat.blt d N = true) (hr : evx env r = some e.val) (hx : evx env x = some (.int .u8 c.toNat))
    (h : ∀ w', Below w.heap.size w w' → J N ((d, .bool (e.has c)) :: env) w' (wpList Tryz.prog ops Q rest)) :
    J N env w (wpList Tryz.prog ops Q (⟨some d, .call { callee := .invoke r "bulletin/wildmat.has", args := #[x], argTypes := #[5] }, ty, pos, after, none⟩ :: rest)) := by
  have hxs : evs env [x] = some [.int .u8 c.toNat] := by simp [evs, hx]
  cases e with
  | one b => exact j_invoke (fun _ => by kernel_rfl) (by kernel_rfl) hd hr hxs (oneHas_any b.toNat c.toNat w) (fun e w' ⟨he, hw⟩ => ⟨_, he, by rw [show ((b.toNat : Int) == (c.toNat : Int)) = Elem.has (.one b) c by show _ = (b.toNat == c.toNat); rw [Bool.eq_iff_iff]; simp only [beq_iff_eq]; omega]; exact h w' (hw ▸ Below.refl _ _)⟩)
  | cls set inv => exact j_invoke (fun _ => by kernel_rfl) (by kernel_rfl) hd hr hxs (classHas_any set inv c w) (fun e w' ⟨he, hw⟩ => ⟨_, he, h w' hw⟩)
  | star => exact j_invoke (fun _ => by kernel_rfl) (by kernel_rfl) hd hr hxs (starHas_any c w) (fun e w' ⟨he, hw⟩ => ⟨_, he, h w' hw⟩)
theorem js_nilM {x : Operand} (e : Elem) (cap : Array Value) (hx : evx env x = some (.func (.method "bulletin/wildmat.has") #[e.val] cap)) : OV Tryz.prog env (.nilCheck x) w (.func (.method "bulletin/wildmat.has") #[e.val] cap) := by
  cases e with
  | one b => exact ov_nilCheckM hx (fun _ => by kernel_rfl)
  | cls set inv => exact ov_nilCheckM hx (fun _ => by kernel_rfl)
  | star => exact ov_nilCheckM hx (fun _ => by kernel_rfl)
end

attribute [local irreducible] J OV EV EU Blk wpList Code.wp bodyPost Exit.then Exit.inBlock Round Left Hid JS wpStill
attribute [local irreducible] Elem.val Elem.repeats Elem.has reps enterL enterP innerL matchL startL matchP

set_option maxHeartbeats 1600000 in
theorem match_any (pb : Nat) (text name : ByteArray) (els : List Elem) (w : World) (hp : PatAt w pb text els) (hs : name.size ≤ 9223372036854775807) (hsm : els.length ≤ 100000) :
    Calls Tryz.prog 97 #[.pointer (some ⟨pb, 0, none⟩), .string name] w fun e w' => e = .returned (.bool (matchP els name.data.toList)) ∧ Below w.heap.size w w' := by
  obtain ⟨v, hv, ea, cap', rfl, hea, hels⟩ := hp.elems
  have hpb : pb < w.heap.size := World.block_lt_of_cell? w _ hv
  refine j_enter (N := 80) Tryz.func97 rfl rfl rfl ?_
  refine jwalk ?_
  refine j_op rfl (ov_load1 rfl hv) ?_
  refine jwalk ?_
  refine j_mk (n := els.length + 1) rfl rfl rfl (by omega) (by unfold maxLen; omega) ?_
  intro w1 hb1 hx1
  rw [made_false] at hb1
  have hp1 : PatAt w1 pb text els := hp.ext hx1
  refine jwalk ?_
  have hsb : ∀ (sb : Nat), w.heap.size ≤ sb → ∀ (w' : World), Below w.heap.size w w' → ∀ v, w'.cell? ⟨pb, 1, none⟩ = some v → v.ownBlock ≠ some sb := by
    intro sb hsb w' hw' v hv'
    have e := cell_ext hw' hv
    rw [e] at hv'
    cases hv'
    intro h
    cases ea with
    | none => simp [Value.ownBlock] at h
    | some a => have := (hea a rfl).lt; simp [Value.ownBlock] at h; omega
  refine j_call (by kernel_rfl) rfl rfl (enter_any pb w.heap.size (els.length + 1) text els (List.replicate (els.length + 1) false) 0 w1 hp1 hb1 (by omega) (hsb _ (Nat.le_refl _) w1 hx1) (by simp) (by simp) rfl (by omega) (by omega)) ?_
  rintro e w2 ⟨rfl, hb2, hg2⟩
  refine ⟨_, rfl, ?_⟩
  refine jwalk ?_
  have hb2' : Blk w2 w.heap.size ((startL els).map Value.bool) 4 := by unfold startL; exact hb2
  have hx2 : Below w.heap.size w w2 := hx1.trans (below_of_grownBy hg2 (Nat.le_refl _) hx1.size)
  refine j_loop (σ := Nat × Nat × List Bool) (fun s => [(0, .pointer (some ⟨pb, 0, none⟩)), (1, .string name), (5, .slice (some ⟨s.2.1, 0, none⟩) (els.length + 1) (els.length + 1)), (23, .int .i64 name.size), (24, .int .i64 s.1)]) (fun s w' => s.1 ≤ name.size ∧ Blk w' s.2.1 (s.2.2.map Value.bool) 4 ∧ s.2.2.length = els.length + 1 ∧ Below w.heap.size w w' ∧ w.heap.size ≤ s.2.1 ∧ matchL els (name.data.toList.drop s.1) s.2.2 = matchL els name.data.toList (startL els)) (fun s => name.size - s.1) (0, w.heap.size, startL els) (Sub.cons rfl (Sub.cons rfl (Sub.cons rfl (Sub.cons rfl (Sub.cons rfl Sub.nil))))) ⟨Nat.zero_le _, hb2', startL_len els, hx2, Nat.le_refl _, rfl⟩ ?_
  intro s w3 h
  obtain ⟨k, sb, bs⟩ := s
  dsimp only at h ⊢
  obtain ⟨hk, hb3, hlen, hx3, hge, hM⟩ := h
  have hv3 := cell_ext hx3 hv
  by_cases hlt : k < name.size
  · refine jwalk ?_
    refine j_mk (n := els.length + 1) rfl rfl rfl (by omega) (by unfold maxLen; omega) ?_
    intro w4 hb4 hx4
    rw [made_false] at hb4
    have hx4' : Below w.heap.size w w4 := hx3.trans (hx4.mono hx3.size)
    have hb34 := hb3.ext hx4
    have hv4 := cell_ext hx4' hv
    have hlt3 := hb3.lt
    have hge4 : w.heap.size ≤ w3.heap.size := hx3.size
    refine jwalk ?_
    refine j_op rfl (ov_load1 rfl hv4) ?_
    refine jwalk ?_
    refine j_loop (σ := Nat × List Bool) (fun s => [(0, .pointer (some ⟨pb, 0, none⟩)), (1, .string name), (5, .slice (some ⟨sb, 0, none⟩) (els.length + 1) (els.length + 1)), (6, .int .i64 k), (7, .slice (some ⟨w3.heap.size, 0, none⟩) (els.length + 1) (els.length + 1)), (23, .int .i64 name.size), (24, .int .i64 k), (33, .slice ea els.length cap'), (34, .int .i64 els.length), (35, .int .i64 s.1)]) (fun s w' => s.1 ≤ els.length ∧ Blk w' sb (bs.map Value.bool) 4 ∧ Blk w' w3.heap.size (s.2.map Value.bool) 4 ∧ Below w.heap.size w w' ∧ s.2 = innerL els bs name[k] s.1) (fun s => els.length - s.1) (0, List.replicate (els.length + 1) false) (Sub.cons rfl (Sub.cons rfl (Sub.cons rfl (Sub.cons rfl (Sub.cons rfl (Sub.cons rfl (Sub.cons rfl (Sub.cons rfl (Sub.cons rfl (Sub.cons rfl Sub.nil)))))))))) ⟨Nat.zero_le _, hb34, hb4, hx4', by rw [innerL]⟩ ?_
    intro s w5 h
    obtain ⟨i, nx⟩ := s
    dsimp only at h ⊢
    obtain ⟨hi, hb5, hn5, hx5, rfl⟩ := h
    have hnl := innerL_len els bs name[k] i
    by_cases hil : i < els.length
    · obtain ⟨eb, rfl, hc⟩ := hels i els[i] (by simp [hil])
      have hc5 := cell_ext hx5 hc
      refine jwalk ?_
      refine j_op rfl (ov_load1 rfl hc5) ?_
      refine jwalk ?_
      have hcell : w5.cell? ⟨sb, i, none⟩ = some (.bool bs[i]) := hb5.cell (by simp)
      have hbsi : bs[i]?.getD false = bs[i] := by simp [show i < bs.length by omega]
      have hsb5 := hsb w3.heap.size hge4 w5 hx5
      have hp5 := hp.ext hx5
      generalize bs[i] = bv at hcell hbsi
      cases bv with
      | false =>
        refine j_region_tail 13 (by kernel_rfl) (by kernel_rfl) ?_
        intro w6 hx6 hz6
        have hb6 := hb5.ext hx6
        have hn6 := hn5.ext hx6
        have hx06 : Below w.heap.size w w6 := hx5.trans (hx6.mono hx5.size)
        have hcell6 := cell_ext hx6 hcell
        refine jvwalk ?_
        refine js_op rfl (ov_load1 rfl hcell6) ?_
        refine jvwalk ?_
        refine jwalk ?_
        refine j_round (i + 1, innerL els bs name[k] (i + 1)) (Sub.cons rfl (Sub.cons rfl (Sub.cons rfl (Sub.cons rfl (Sub.cons rfl (Sub.cons rfl (Sub.cons rfl (Sub.cons rfl (Sub.cons rfl (Sub.cons rfl Sub.nil)))))))))) ⟨by omega, hb6, ?_, hx06, rfl⟩ (by simp; omega)
        rw [innerL_no hil (by rw [hbsi]; rfl)]; exact hn6
      | true =>
        refine j_region_tail 13 (by kernel_rfl) (by kernel_rfl) ?_
        intro w6 hx6 hz6
        have hb6 := hb5.ext hx6
        have hn6 := hn5.ext hx6
        have hx06 : Below w.heap.size w w6 := hx5.trans (hx6.mono hx5.size)
        have hcell6 := cell_ext hx6 hcell
        refine jvwalk ?_
        refine js_op rfl (ov_load1 rfl hcell6) ?_
        refine jvwalk ?_
        refine js_yes rfl rfl rfl rfl (js_nilM els[i] #[] rfl) ?_
        refine jvwalk ?_
        refine jwalk ?_
        refine j_has els[i] name[k] rfl rfl rfl ?_
        intro w7 hx7
        have hb7 := hb6.ext hx7
        have hn7 := hn6.ext hx7
        have hx07 : Below w.heap.size w w7 := hx06.trans (hx7.mono hx06.size)
        generalize hhas : els[i].has name[k] = hv'
        refine jwalk ?_
        cases hv' with
        | false =>
          refine jwalk ?_
          refine j_round (i + 1, innerL els bs name[k] (i + 1)) (Sub.cons rfl (Sub.cons rfl (Sub.cons rfl (Sub.cons rfl (Sub.cons rfl (Sub.cons rfl (Sub.cons rfl (Sub.cons rfl (Sub.cons rfl (Sub.cons rfl Sub.nil)))))))))) ⟨by omega, hb7, ?_, hx07, rfl⟩ (by simp; omega)
          rw [innerL_no hil (by rw [hhas]; simp)]; exact hn7
        | true =>
          refine jwalk ?_
          refine j_repeats els[i] rfl rfl ?_
          intro w8 hx8
          have hb8 := hb7.ext hx8
          have hn8 := hn7.ext hx8
          have hx08 : Below w.heap.size w w8 := hx07.trans (hx8.mono hx07.size)
          have hp8 := hp.ext hx08
          generalize hrep : els[i].repeats = rp
          refine jwalk ?_
          cases rp with
          | true =>
            refine jwalk ?_
            refine j_call (by kernel_rfl) rfl rfl (enter_any pb w3.heap.size (els.length + 1) text els (innerL els bs name[k] i) i w8 hp8 hn8 (by omega) (hsb _ hge4 w8 hx08) hnl hnl.symm rfl (by omega) (by omega)) ?_
            rintro e w9 ⟨rfl, hn9, hg9⟩
            refine ⟨_, rfl, ?_⟩
            have hb9 := hb8.grown hg9 (by simp; omega)
            have hx09 : Below w.heap.size w w9 := hx08.trans (below_of_grownBy hg9 hge4 hx08.size)
            refine jwalk ?_
            refine j_round (i + 1, innerL els bs name[k] (i + 1)) (Sub.cons rfl (Sub.cons rfl (Sub.cons rfl (Sub.cons rfl (Sub.cons rfl (Sub.cons rfl (Sub.cons rfl (Sub.cons rfl (Sub.cons rfl (Sub.cons rfl Sub.nil)))))))))) ⟨by omega, hb9, ?_, hx09, rfl⟩ (by simp; omega)
            rw [innerL_yes hil hbsi hhas, hrep]; exact hn9
          | false =>
            refine jwalk ?_
            refine j_call (by kernel_rfl) rfl rfl (enter_any pb w3.heap.size (els.length + 1) text els (innerL els bs name[k] i) (i + 1) w8 hp8 hn8 (by omega) (hsb _ hge4 w8 hx08) hnl hnl.symm rfl (by omega) (by omega)) ?_
            rintro e w9 ⟨rfl, hn9, hg9⟩
            refine ⟨_, rfl, ?_⟩
            have hb9 := hb8.grown hg9 (by simp; omega)
            have hx09 : Below w.heap.size w w9 := hx08.trans (below_of_grownBy hg9 hge4 hx08.size)
            refine jwalk ?_
            refine j_round (i + 1, innerL els bs name[k] (i + 1)) (Sub.cons rfl (Sub.cons rfl (Sub.cons rfl (Sub.cons rfl (Sub.cons rfl (Sub.cons rfl (Sub.cons rfl (Sub.cons rfl (Sub.cons rfl (Sub.cons rfl Sub.nil)))))))))) ⟨by omega, hb9, ?_, hx09, rfl⟩ (by simp; omega)
            rw [innerL_yes hil hbsi hhas, hrep]; exact hn9
    · refine jwalk ?_
      refine j_round (k + 1, w3.heap.size, innerL els bs name[k] els.length) (Sub.cons rfl (Sub.cons rfl (Sub.cons rfl (Sub.cons rfl (Sub.cons rfl Sub.nil))))) ⟨by omega, ?_, innerL_len els bs name[k] _, hx5, hge4, ?_⟩ (by simp; omega)
      · rw [show i = els.length by omega] at hn5; exact hn5
      · rw [← matchL_drop els name k hlt, hM]
  · refine jwalk ?_
    refine j_op rfl (ov_load1 rfl hv3) ?_
    refine jwalk ?_
    have hcell : w3.cell? ⟨sb, els.length, none⟩ = some (.bool bs[els.length]) := hb3.cell (by simp)
    refine j_op rfl (ov_load1 rfl hcell) ?_
    refine jwalk ?_
    refine j_ret1 rfl rfl ⟨?_, hx3⟩
    have e : matchL els name.data.toList (startL els) = bs := by
      rw [← hM, List.drop_eq_nil_of_le (by simp; omega), matchL]
    rw [matchP, e]
    simp [show els.length < bs.length by omega]

end Go.Proofs.YtddiecdoaggaaaaGreatDoor
