/- From a walk to the statement of a law: what is alike for all laws. -/
import Derived.Test.YtddiecdoaggaaaaDoorRows
import Derived.Test.YtddiecdoaggaaaaDoorTie
import Derived.Test.YtddiecdoaggaaaaDoorCards
import Derived.WalkKit
import Derived.ProofKit
import Derived.OpenShut
import Derived.Carry
import Derived.ChangeSame
import Derived.Deep.Slices
import Derived.Deep.Fields
import Derived.Deep.DeepHandedRow
import Derived.Lib.LaidTab
import Derived.Shelf.Vars
import Derived.Test.YtddiecdoaggaaaaDoorK
namespace Go.Proofs.YtddiecdoaggaaaaDoor
open Go.RowKit Go.ChangeShapes Go.WideShapes

section
variable {H : Type} {enc : TypeId × Value → H} {P : Program} {W W' : World}
theorem trodAll_below (hl : laidOutB P = true) (hb : Below W.heap.size W W') : ∀ (ts : List TypeId) (vs : List Value) (ds : List (DataW H)) (p : List MemPlace),
    DataW.TrodAll enc P W 0 (fun _ => true) true ts vs ds p → (∀ t ∈ ts, P.readableRec t = true ∧ t < P.types.size) → (∀ x ∈ p, x.block < W.heap.size) → DataW.TrodAll enc P W' 0 (fun b => decide (b < W.heap.size)) true ts vs ds p := by
  intro ts
  induction ts with
  | nil =>
    intro vs ds p h _ _
    obtain ⟨rfl, rfl, rfl⟩ := trodAll_nil h
    exact trodAll_mk0
  | cons t ts ih =>
    intro vs ds p h ht hlt
    obtain ⟨v, vs', d, ds', p1, p2, rfl, rfl, rfl, h1, h2⟩ := trodAll_cons h
    obtain ⟨h3, h4⟩ := ht t (by simp)
    exact trodAll_cons_mk (Below.trod hl h3 h4 h1 hb (fun x hx => hlt x (by simp [hx]))) (ih _ _ _ h2 (fun t' h' => ht t' (by simp [h'])) (fun x hx => hlt x (by simp [hx])))
/-- A law that answers true and leaves what was there meets its specification. -/
theorem law_post {f : Func} {s : ChangeSpec} {tb : TypeId} {args : Array Value} {ds gs : List (DataW H)} {before : List MemPlace} (hl : laidOutB P = true) (hr : f.resultTypes = #[tb]) (hub : P.underlying tb = some .bool)
    (hp : ∀ t ∈ f.params.toList, P.readableRec t = true ∧ t < P.types.size) (hvars : s.vars = []) (hs : s.fn H ds = { results := [.lit (.bool true)], args := ds })
    (hW : DataW.Whole enc P f.params.toList s.vars false W args.toList ds gs before) (hb : Below W.heap.size W W') : s.post enc P f false true false false W args (.bool true) W' := by
  have hW' := hW
  obtain ⟨p, q, hA, hV, rfl, _, _⟩ := hW
  rw [hvars] at hV
  obtain ⟨rfl, rfl⟩ := trodVars_none hV
  have hlt : ∀ x ∈ p, x.block < W.heap.size := fun x hx => by
    have := hW'.lt x (by simp [hx])
    simpa using this
  refine ⟨_, _, _, [], p, [], hW', ?_, ?_, ?_, hb.frame _, fun h => by cases h⟩
  · rw [List.append_nil, hs, hr]; exact trodAll_mk1 (shut_bool hub true)
  · rw [List.append_nil, hs]; exact trodAll_below hl hb _ _ _ _ hA hp hlt
  · rw [List.append_nil, hs, hvars]; rfl
end

/-! How arguments read: what is read of type t is one of the values that e writes. -/
section
variable {H : Type} {enc : TypeId × Value → H} {P : Program} {W : World} {t : TypeId}
/-- B: a bound of the bulk of what is read. -/
def Dec (B : Nat) (enc : TypeId × Value → H) (P : Program) (W : World) (t : TypeId) {α : Type} (e : α → List Value) (ok : α → Prop) : Prop :=
  ∀ n cs y, DataW.trod enc P W 0 (fun _ => true) true n t cs = some y → Rows.uptoBulk y.1 ≤ B → ∃ c, ok c ∧ cs = e c
theorem bulk_mem : ∀ {l : List (DataW H)} {d : DataW H}, d ∈ l → Rows.uptoBulk d ≤ Rows.uptoBulkAll l
  | [], _, h => by cases h
  | x :: l, d, h => by
    rw [Rows.uptoBulkAll]
    rcases List.mem_cons.1 h with rfl | h
    · omega
    · have := bulk_mem h; omega
theorem bulk_pos (d : DataW H) : 1 ≤ Rows.uptoBulk d := by
  cases d with
  | lit l => cases l <;> simp [Rows.uptoBulk]
  | _ => simp [Rows.uptoBulk]
theorem bulk_len : ∀ (l : List (DataW H)), l.length ≤ Rows.uptoBulkAll l
  | [] => Nat.zero_le _
  | x :: l => by
    rw [Rows.uptoBulkAll, List.length_cons]
    have := bulk_len l
    have := bulk_pos x
    omega
variable {B : Nat}
theorem dec_int {k : IntKind} (ht : P.underlying t = some (.int k)) : Dec B enc P W t (fun n : Int => [.int k n]) (fun n => k.min ≤ n ∧ n ≤ k.max) := by
  intro n cs y h _
  obtain ⟨m, rfl, _, hw⟩ := DataW.trod_int ht h
  simp only [Lit.wf, Bool.and_eq_true, decide_eq_true_eq] at hw
  exact ⟨m, hw, rfl⟩
theorem dec_str (ht : P.underlying t = some .string) : Dec B enc P W t (fun s : ByteArray => [.string s]) (fun s => s.size ≤ maxLen ∧ s.size ≤ B) := by
  intro n cs y h hb
  obtain ⟨s, rfl, hy, hs⟩ := DataW.trod_string ht h
  rw [hy] at hb
  simp only [Rows.uptoBulk] at hb
  have : s.data.toList.length = s.size := by simp
  exact ⟨s, ⟨hs, by omega⟩, rfl⟩
theorem dec_bool (ht : P.underlying t = some .bool) : Dec B enc P W t (fun b : Bool => [.bool b]) (fun _ => True) := by
  intro n cs y h _
  obtain ⟨b, rfl, _⟩ := DataW.trod_bool ht h
  exact ⟨b, trivial, rfl⟩
def bytesV (l : List UInt8) : List Value := l.map fun c => .int .u8 c.toNat
theorem dec_bytes {n : Nat} {e : TypeId} (ht : P.underlying t = some (.array n e)) (he : P.underlying e = some (.int .u8)) (h1 : P.cellsOf e = 1) (hn : P.cellsOf t = n) : Dec B enc P W t bytesV (fun l => l.length = n) := by
  intro m cs y h _
  obtain ⟨xs, k, _, _, hl, hxl, hx⟩ := DataW.trod_array ht h
  rw [hn] at hl
  have key : ∀ i (hi : i < cs.length), ∃ c : UInt8, cs[i] = .int .u8 c.toNat := by
    intro i hi
    have h2 := hx i (by omega)
    rw [h1] at h2
    simp only [Nat.mul_one] at h2
    have h3 : (cs.drop i).take 1 = [cs[i]] := by
      rw [List.drop_eq_getElem_cons hi]; rfl
    rw [h3] at h2
    have h4 : xs[i]? = some (xs[i]'(by omega)) := List.getElem?_eq_getElem (by omega)
    rw [h4] at h2
    obtain ⟨q, hq, _, hw⟩ := DataW.trod_int he h2
    simp only [List.cons.injEq, and_true] at hq
    simp only [Lit.wf, Bool.and_eq_true, decide_eq_true_eq] at hw
    have hw1 : (0 : Int) ≤ q := hw.1
    have hw2 : q ≤ 255 := hw.2
    refine ⟨UInt8.ofNat q.toNat, ?_⟩
    rw [hq]
    congr 1
    rw [UInt8.toNat_ofNat']
    omega
  refine ⟨(List.range cs.length).map fun i => match cs[i]? with
    | some (Value.int _ q) => UInt8.ofNat q.toNat
    | _ => 0, by simp [hl], ?_⟩
  unfold bytesV
  rw [List.map_map]
  apply List.ext_getElem
  · simp
  · intro i h1 h2
    obtain ⟨c, hc⟩ := key i h1
    simp [hc, h1]
/-- A list of fields, one behind the other. -/
def DecL (B : Nat) (enc : TypeId × Value → H) (P : Program) (W : World) (ts : List TypeId) {α : Type} (e : α → List Value) (ok : α → Prop) : Prop :=
  ∀ n (ch : List (List Value)), ch.length = ts.length → (∀ (i : Nat) (t : TypeId) (c : List Value), ts[i]? = some t → ch[i]? = some c → ∃ y, DataW.trod enc P W 0 (fun _ => true) true n t c = some y ∧ Rows.uptoBulk y.1 ≤ B) → ∃ c, ok c ∧ ch.flatten = e c
theorem decL_nil : DecL B enc P W [] (fun _ : Unit => []) (fun _ => True) := by
  intro n ch hl _
  have : ch = [] := List.eq_nil_of_length_eq_zero hl
  subst this
  exact ⟨(), trivial, rfl⟩
theorem decL_cons {ts : List TypeId} {α β : Type} {e : α → List Value} {ok : α → Prop} {e' : β → List Value} {ok' : β → Prop} (h : Dec B enc P W t e ok) (h' : DecL B enc P W ts e' ok') : DecL B enc P W (t :: ts) (fun c : α × β => e c.1 ++ e' c.2) (fun c => ok c.1 ∧ ok' c.2) := by
  intro n ch hl hch
  match ch, hl with
  | c0 :: ch, hl =>
    obtain ⟨y, hy, hyb⟩ := hch 0 t c0 rfl rfl
    obtain ⟨a, ha, rfl⟩ := h n c0 y hy hyb
    obtain ⟨b, hb, hb'⟩ := h' n ch (by simpa using hl) (fun i t c h1 h2 => hch (i + 1) t c (by simpa using h1) (by simpa using h2))
    exact ⟨(a, b), ⟨ha, hb⟩, by rw [List.flatten_cons, hb']⟩
def rowsOf (P : Program) : List Field → Nat → Bool
  | [], _ => true
  | f :: fs, s => Nat.beq f.offset s && rowsOf P fs (s + P.cellsOf f.type)
def sumOf (P : Program) : List Field → Nat
  | [] => 0
  | f :: fs => P.cellsOf f.type + sumOf P fs
theorem chunks_flat (P : Program) (cs : List Value) : ∀ (fs : List Field) (s : Nat), rowsOf P fs s = true → s + sumOf P fs = cs.length → (fs.map fun f => (cs.drop f.offset).take (P.cellsOf f.type)).flatten = cs.drop s
  | [], s, _, h => by
    simp only [sumOf, Nat.add_zero] at h
    rw [List.drop_eq_nil_of_le (by omega)]; rfl
  | f :: fs, s, hr, h => by
    simp only [rowsOf, Bool.and_eq_true] at hr
    simp only [sumOf] at h
    have e := Nat.eq_of_beq_eq_true hr.1
    rw [List.map_cons, List.flatten_cons, chunks_flat P cs fs (s + P.cellsOf f.type) hr.2 (by omega), e]
    conv => rhs; rw [← List.take_append_drop (P.cellsOf f.type) (cs.drop s)]
    rw [List.drop_drop]
theorem dec_struct {fs : Array Field} {ts : List TypeId} {α : Type} {e : α → List Value} {ok : α → Prop} (ht : P.underlying t = some (.struct fs)) (hts : fs.toList.map (·.type) = ts) (hr : rowsOf P fs.toList 0 = true) (hs : Nat.beq (sumOf P fs.toList) (P.cellsOf t) = true) (h : DecL B enc P W ts e ok) : Dec B enc P W t e ok := by
  intro n cs y hy hb
  obtain ⟨xs, m, _, hyx, hl, hxl, hx⟩ := DataW.trod_struct ht hy
  rw [hyx] at hb
  simp only [Rows.uptoBulk] at hb
  have hs' := Nat.eq_of_beq_eq_true hs
  have hflat := chunks_flat P cs fs.toList 0 hr (by omega)
  rw [List.drop_zero] at hflat
  rw [← hflat]
  refine h m _ (by rw [← hts]; simp) ?_
  intro i t c h1 h2
  rw [← hts, List.getElem?_map] at h1
  rw [List.getElem?_map] at h2
  cases hf : fs.toList[i]? with
  | none => rw [hf] at h1; cases h1
  | some f =>
    rw [hf] at h1 h2
    simp only [Option.map_some, Option.some.injEq] at h1 h2
    subst h1 h2
    have h3 := hx i f (by simpa using hf)
    have hi : i < fs.size := by
      have := (List.getElem?_eq_some_iff.1 hf).1
      simpa using this
    have hxi : i < xs.length := by omega
    rw [List.getElem?_eq_getElem hxi] at h3
    have := bulk_mem (List.mem_map.2 ⟨_, List.getElem_mem hxi, rfl⟩ : (xs[i]).1 ∈ xs.map (·.1))
    exact ⟨_, h3, by omega⟩
/-- A slice: its value, and what its elements are. -/
theorem dec_slice {et : TypeId} {sz : Nat} {α : Type} {e : α → List Value} {ok : α → Prop} (ht : P.underlying t = some (.slice et)) (hsz : P.cellsOf et = sz) (h0 : 0 < sz) (h : Dec B enc P W et e ok) :
    Dec B enc P W t (fun c : Value × List α => [c.1]) (fun c => RowAt W c.1 sz (c.2.map e) ∧ (∀ x ∈ c.2, ok x) ∧ c.2.length ≤ maxLen ∧ c.2.length ≤ B) := by
  intro n cs y hy hb
  rcases Deep.open_slice ht hy with ⟨rfl, _⟩ | ⟨a, len, cap, m, n', D, Pl, rfl, _, hlc, hm, hmm, hyx, hi⟩
  · exact ⟨(.slice none 0 0, []), ⟨⟨none, 0, rfl, by simp⟩, by simp, Nat.zero_le _, Nat.zero_le _⟩, rfl⟩
  · simp only [if_true] at hmm
    rw [hmm] at hi
    rw [hyx] at hb
    simp only [Rows.uptoBulk] at hb
    have hlenB := bulk_len ((List.range len).map D)
    rw [List.length_map, List.length_range] at hlenB
    have key : ∀ k : Nat, k ≤ len → ∃ l : List α, l.length = k ∧ (∀ x ∈ l, ok x) ∧ ∀ i (hi' : i < l.length), W.cells? 0 (a.add (i * sz)) sz = some (e l[i]) := by
      intro k
      induction k with
      | zero => intro _; exact ⟨[], rfl, by simp, fun i h => absurd h (by simp)⟩
      | succ k ih =>
        intro hk
        obtain ⟨l, h1, h2, h3⟩ := ih (by omega)
        obtain ⟨cs', h4, h5⟩ := hi k (by omega)
        have hbk := bulk_mem (List.mem_map.2 ⟨k, List.mem_range.2 (by omega), rfl⟩ : D k ∈ (List.range len).map D)
        obtain ⟨c, h6, rfl⟩ := h _ _ _ h5 (by show Rows.uptoBulk (D k) ≤ B; omega)
        refine ⟨l ++ [c], by simp [h1], fun x hx => ?_, fun i hi' => ?_⟩
        · rcases List.mem_append.1 hx with hx | hx
          · exact h2 x hx
          · simp at hx; rw [hx]; exact h6
        · by_cases hlt : i < l.length
          · rw [List.getElem_append_left hlt]; exact h3 i hlt
          · have : i = k := by simp at hi'; omega
            subst this
            rw [List.getElem_append_right (by omega)]
            rw [hsz] at h4
            simpa using h4

    obtain ⟨l, h1, h2, h3⟩ := key len (Nat.le_refl _)
    refine ⟨(.slice (some a) len cap, l), ⟨⟨some a, cap, by rw [List.length_map, h1], fun i c hc => ?_⟩, h2, by rw [h1]; omega, by rw [h1]; omega⟩, rfl⟩
    rw [List.getElem?_map] at hc
    cases hl : l[i]? with
    | none => rw [hl] at hc; cases hc
    | some x =>
      rw [hl] at hc
      simp only [Option.map_some, Option.some.injEq] at hc
      subst hc
      obtain ⟨hil, rfl⟩ := List.getElem?_eq_some_iff.1 hl
      obtain ⟨_, hlen, hcell⟩ := World.cells?_some (h3 i hil)
      have hsp : a.spot = none := by
        obtain ⟨_, hlen0, hcell0⟩ := World.cells?_some (h3 0 (by omega))
        have h4 := hcell0 0 h0
        rw [List.getElem?_eq_getElem (by omega)] at h4
        have := World.cell?_spot h4
        simpa [Addr.add] using this
      obtain ⟨b, o, sp⟩ := a
      subst hsp
      refine ⟨b, o, rfl, fun j u hj => ?_⟩
      have hjl : j < sz := by have := (List.getElem?_eq_some_iff.1 hj).1; omega
      have h5 := hcell j hjl
      rw [hj] at h5
      rw [← h5]
      congr 1
      unfold Addr.add
      split <;> split <;> simp_all
/-! An argument as a whole. -/
variable {v : Value} {d : DataW H} {ps : List MemPlace} {b0 : Nat} {rr : Reach}
theorem arg_int {k : IntKind} (ht : P.underlying t = some (.int k)) (hv : Value.okWide P W rr b0 t v) (h : DataW.Trod enc P W 0 (fun _ => true) true t v d ps) : ∃ n, v = .int k n ∧ k.min ≤ n ∧ n ≤ k.max := by
  obtain ⟨n, rfl, _, _, hw⟩ := open_int ht hv h
  simp only [Lit.wf, Bool.and_eq_true, decide_eq_true_eq] at hw
  exact ⟨n, rfl, hw⟩
theorem arg_bool (ht : P.underlying t = some .bool) (hv : Value.okWide P W rr b0 t v) (h : DataW.Trod enc P W 0 (fun _ => true) true t v d ps) : ∃ b, v = .bool b := by
  obtain ⟨b, rfl, _⟩ := open_bool ht hv h
  exact ⟨b, rfl⟩
theorem arg_str (ht : P.underlying t = some .string) (hv : Value.okWide P W rr b0 t v) (h : DataW.Trod enc P W 0 (fun _ => true) true t v d ps) : ∃ s : ByteArray, v = .string s ∧ d = .lit (.string s.data.toList) ∧ s.size ≤ maxLen := by
  obtain ⟨s, rfl, hd, _, hs⟩ := ChangeMaps.open_string ht hv h
  exact ⟨s, rfl, hd, hs⟩
theorem arg_struct {fs : Array Field} {α : Type} {e : α → List Value} {ok : α → Prop} (ht : P.underlying t = some (.struct fs)) (hv : Value.okWide P W rr b0 t v) (hd : Dec B enc P W t e ok) (h : DataW.Trod enc P W 0 (fun _ => true) true t v d ps) (hb : Rows.uptoBulk d ≤ B) : ∃ c, ok c ∧ v = .agg (e c).toArray := by
  obtain ⟨cs, rfl, _⟩ := okWide_struct ht hv
  obtain ⟨fuel, hf⟩ := h
  obtain ⟨c, hc, he⟩ := hd _ _ _ hf hb
  refine ⟨c, hc, ?_⟩
  rw [← he]; rfl
theorem arg_slice {et : TypeId} {α : Type} {ok : Value × List α → Prop} (ht : P.underlying t = some (.slice et)) (hv : Value.okWide P W rr b0 t v) (hd : Dec B enc P W t (fun c : Value × List α => [c.1]) ok) (h : DataW.Trod enc P W 0 (fun _ => true) true t v d ps) (hb : Rows.uptoBulk d ≤ B) : ∃ l, ok (v, l) := by
  obtain ⟨a, len, cap, rfl⟩ := okWide_slice ht hv
  obtain ⟨fuel, hf⟩ := h
  obtain ⟨⟨u, l⟩, hc, he⟩ := hd _ _ _ hf hb
  have : Value.slice a len cap = u := by simpa [Value.cells] using he
  subst this
  exact ⟨l, hc⟩
def layG (h : Array Obj) (g : Nat) (cs : List Value) : Array Obj := h.modify g fun o => match o with
  | Obj.cells _ t frozen => Obj.cells cs.toArray t frozen
  | o => o
def flatD {H : Type} : DataW H → List Value
  | .lit (.int k n) => [.int k n]
  | .agg l => l.flatMap fun d => match d with
    | .lit (.int k n) => [.int k n]
    | .agg l' => l'.flatMap fun d => match d with
      | .lit (.int k n) => [.int k n]
      | _ => []
    | _ => []
  | _ => []
end
end Go.Proofs.YtddiecdoaggaaaaDoor
