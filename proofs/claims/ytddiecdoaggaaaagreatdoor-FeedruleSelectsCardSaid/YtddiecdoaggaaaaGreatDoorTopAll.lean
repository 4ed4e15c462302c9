/- From a walk to the statement of a law: what is alike for all laws. How arguments read, with the weights that the form allows: each string has at most 2^47 - 4096 bytes. Slices of an argument with their room: what is known of a slice within a slice. No program. FeedruleSelects answers true for every row, every list of items and every time, and leaves its arguments as they were: the full statement's card. -/
import Derived.Test.YtddiecdoaggaaaaGreatDoorRows
import Derived.Test.YtddiecdoaggaaaaGreatDoorTie
import Derived.Test.YtddiecdoaggaaaaGreatDoorCards
import Derived.WalkKit
import Derived.ProofKit
import Derived.OpenShut
import Derived.Carry
import Derived.ChangeSame
import Derived.Deep.Slices
import Derived.Deep.Fields
import Derived.Deep.DeepHandedRow
import Derived.Lib.LaidTab
import Derived.Shelf.Vars
import Derived.Test.YtddiecdoaggaaaaGreatDoorK
import Derived.SizedLaws
import Derived.Test.YtddiecdoaggaaaaGreatDoorKits
import Derived.Test.YtddiecdoaggaaaaGreatDoorFeedAll
namespace Go.Proofs.YtddiecdoaggaaaaGreatDoor
open Go.RowKit Go.ChangeShapes Go.WideShapes

section
variable {H : Type} {enc : TypeId × Value → H} {P : Program} {W W' : World}
theorem trodAll_below (hl : laidOutB P = true) (hb : Below W.heap.size W W') : ∀ (ts : List TypeId) (vs : List Value) (ds : List (DataW H)) (p : List MemPlace),
    DataW.TrodAll enc P W 0 (fun _ => true) true ts vs ds p → (∀ t ∈ ts, P.readableRec t = true ∧ t < P.types.size) → (∀ x ∈ p, x.block < W.heap.size) → DataW.TrodAll enc P W' 0 (fun b => decide (b < W.heap.size)) true ts vs ds p := by
  intro ts
  induction ts with
  | nil =>
    intro vs ds p h _ _
    obtain ⟨rfl, rfl, rfl⟩ := trodAll_nil h
    exact trodAll_mk0
  | cons t ts ih =>
    intro vs ds p h ht hlt
    obtain ⟨v, vs', d, ds', p1, p2, rfl, rfl, rfl, h1, h2⟩ := trodAll_cons h
    obtain ⟨h3, h4⟩ := ht t (by simp)
    exact trodAll_cons_mk (Below.trod hl h3 h4 h1 hb (fun x hx => hlt x (by simp [hx]))) (ih _ _ _ h2 (fun t' h' => ht t' (by simp [h'])) (fun x hx => hlt x (by simp [hx])))
/-- A law that answers true and leaves what was there meets its specification. -/
theorem law_post {f : Func} {s : ChangeSpec} {tb : TypeId} {args : Array Value} {ds gs : List (DataW H)} {before : List MemPlace} (hl : laidOutB P = true) (hr : f.resultTypes = #[tb]) (hub : P.underlying tb = some .bool)
    (hp : ∀ t ∈ f.params.toList, P.readableRec t = true ∧ t < P.types.size) (hvars : s.vars = []) (hs : s.fn H ds = { results := [.lit (.bool true)], args := ds })
    (hW : DataW.Whole enc P f.params.toList s.vars false W args.toList ds gs before) (hb : Below W.heap.size W W') : s.post enc P f false true false false W args (.bool true) W' := by
  have hW' := hW
  obtain ⟨p, q, hA, hV, rfl, _, _⟩ := hW
  rw [hvars] at hV
  obtain ⟨rfl, rfl⟩ := trodVars_none hV
  have hlt : ∀ x ∈ p, x.block < W.heap.size := fun x hx => by
    have := hW'.lt x (by simp [hx])
    simpa using this
  refine ⟨_, _, _, [], p, [], hW', ?_, ?_, ?_, hb.frame _, fun h => by cases h⟩
  · rw [List.append_nil, hs, hr]; exact trodAll_mk1 (shut_bool hub true)
  · rw [List.append_nil, hs]; exact trodAll_below hl hb _ _ _ _ hA hp hlt
  · rw [List.append_nil, hs, hvars]; rfl
end

/-! How arguments read: what is read of type t is one of the values that e writes. -/
section
variable {H : Type} {enc : TypeId × Value → H} {P : Program} {W : World} {t : TypeId}
/-- B: a bound of the bulk of what is read. -/
def Dec (B : Nat) (enc : TypeId × Value → H) (P : Program) (W : World) (t : TypeId) {α : Type} (e : α → List Value) (ok : α → Prop) : Prop :=
  ∀ n cs y, DataW.trod enc P W 0 (fun _ => true) true n t cs = some y → Rows.uptoBulk y.1 ≤ B → ∃ c, ok c ∧ cs = e c
theorem bulk_mem : ∀ {l : List (DataW H)} {d : DataW H}, d ∈ l → Rows.uptoBulk d ≤ Rows.uptoBulkAll l
  | [], _, h => by cases h
  | x :: l, d, h => by
    rw [Rows.uptoBulkAll]
    rcases List.mem_cons.1 h with rfl | h
    · omega
    · have := bulk_mem h; omega
theorem bulk_pos (d : DataW H) : 1 ≤ Rows.uptoBulk d := by
  cases d with
  | lit l => cases l <;> simp [Rows.uptoBulk]
  | _ => simp [Rows.uptoBulk]
theorem bulk_len : ∀ (l : List (DataW H)), l.length ≤ Rows.uptoBulkAll l
  | [] => Nat.zero_le _
  | x :: l => by
    rw [Rows.uptoBulkAll, List.length_cons]
    have := bulk_len l
    have := bulk_pos x
    omega
variable {B : Nat}
theorem dec_int {k : IntKind} (ht : P.underlying t = some (.int k)) : Dec B enc P W t (fun n : Int => [.int k n]) (fun n => k.min ≤ n ∧ n ≤ k.max) := by
  intro n cs y h _
  obtain ⟨m, rfl, _, hw⟩ := DataW.trod_int ht h
  simp only [Lit.wf, Bool.and_eq_true, decide_eq_true_eq] at hw
  exact ⟨m, hw, rfl⟩
theorem dec_str (ht : P.underlying t = some .string) : Dec B enc P W t (fun s : ByteArray => [.string s]) (fun s => s.size ≤ maxLen ∧ s.size ≤ B) := by
  intro n cs y h hb
  obtain ⟨s, rfl, hy, hs⟩ := DataW.trod_string ht h
  rw [hy] at hb
  simp only [Rows.uptoBulk] at hb
  have : s.data.toList.length = s.size := by simp
  exact ⟨s, ⟨hs, by omega⟩, rfl⟩
theorem dec_bool (ht : P.underlying t = some .bool) : Dec B enc P W t (fun b : Bool => [.bool b]) (fun _ => True) := by
  intro n cs y h _
  obtain ⟨b, rfl, _⟩ := DataW.trod_bool ht h
  exact ⟨b, trivial, rfl⟩
def bytesV (l : List UInt8) : List Value := l.map fun c => .int .u8 c.toNat
theorem dec_bytes {n : Nat} {e : TypeId} (ht : P.underlying t = some (.array n e)) (he : P.underlying e = some (.int .u8)) (h1 : P.cellsOf e = 1) (hn : P.cellsOf t = n) : Dec B enc P W t bytesV (fun l => l.length = n) := by
  intro m cs y h _
  obtain ⟨xs, k, _, _, hl, hxl, hx⟩ := DataW.trod_array ht h
  rw [hn] at hl
  have key : ∀ i (hi : i < cs.length), ∃ c : UInt8, cs[i] = .int .u8 c.toNat := by
    intro i hi
    have h2 := hx i (by omega)
    rw [h1] at h2
    simp only [Nat.mul_one] at h2
    have h3 : (cs.drop i).take 1 = [cs[i]] := by
      rw [List.drop_eq_getElem_cons hi]; rfl
    rw [h3] at h2
    have h4 : xs[i]? = some (xs[i]'(by omega)) := List.getElem?_eq_getElem (by omega)
    rw [h4] at h2
    obtain ⟨q, hq, _, hw⟩ := DataW.trod_int he h2
    simp only [List.cons.injEq, and_true] at hq
    simp only [Lit.wf, Bool.and_eq_true, decide_eq_true_eq] at hw
    have hw1 : (0 : Int) ≤ q := hw.1
    have hw2 : q ≤ 255 := hw.2
    refine ⟨UInt8.ofNat q.toNat, ?_⟩
    rw [hq]
    congr 1
    rw [UInt8.toNat_ofNat']
    omega
  refine ⟨(List.range cs.length).map fun i => match cs[i]? with
    | some (Value.int _ q) => UInt8.ofNat q.toNat
    | _ => 0, by simp [hl], ?_⟩
  unfold bytesV
  rw [List.map_map]
  apply List.ext_getElem
  · simp
  · intro i h1 h2
    obtain ⟨c, hc⟩ := key i h1
    simp [hc, h1]
/-- A list of fields, one behind the other. -/
def DecL (B : Nat) (enc : TypeId × Value → H) (P : Program) (W : World) (ts : List TypeId) {α : Type} (e : α → List Value) (ok : α → Prop) : Prop :=
  ∀ n (ch : List (List Value)), ch.length = ts.length → (∀ (i : Nat) (t : TypeId) (c : List Value), ts[i]? = some t → ch[i]? = some c → ∃ y, DataW.trod enc P W 0 (fun _ => true) true n t c = some y ∧ Rows.uptoBulk y.1 ≤ B) → ∃ c, ok c ∧ ch.flatten = e c
theorem decL_nil : DecL B enc P W [] (fun _ : Unit => []) (fun _ => True) := by
  intro n ch hl _
  have : ch = [] := List.eq_nil_of_length_eq_zero hl
  subst this
  exact ⟨(), trivial, rfl⟩
theorem decL_cons {ts : List TypeId} {α β : Type} {e : α → List Value} {ok : α → Prop} {e' : β → List Value} {ok' : β → Prop} (h : Dec B enc P W t e ok) (h' : DecL B enc P W ts e' ok') : DecL B enc P W (t :: ts) (fun c : α × β => e c.1 ++ e' c.2) (fun c => ok c.1 ∧ ok' c.2) := by
  intro n ch hl hch
  match ch, hl with
  | c0 :: ch, hl =>
    obtain ⟨y, hy, hyb⟩ := hch 0 t c0 rfl rfl
    obtain ⟨a, ha, rfl⟩ := h n c0 y hy hyb
    obtain ⟨b, hb, hb'⟩ := h' n ch (by simpa using hl) (fun i t c h1 h2 => hch (i + 1) t c (by simpa using h1) (by simpa using h2))
    exact ⟨(a, b), ⟨ha, hb⟩, by rw [List.flatten_cons, hb']⟩
def rowsOf (P : Program) : List Field → Nat → Bool
  | [], _ => true
  | f :: fs, s => Nat.beq f.offset s && rowsOf P fs (s + P.cellsOf f.type)
def sumOf (P : Program) : List Field → Nat
  | [] => 0
  | f :: fs => P.cellsOf f.type + sumOf P fs
theorem chunks_flat (P : Program) (cs : List Value) : ∀ (fs : List Field) (s : Nat), rowsOf P fs s = true → s + sumOf P fs = cs.length → (fs.map fun f => (cs.drop f.offset).take (P.cellsOf f.type)).flatten = cs.drop s
  | [], s, _, h => by
    simp only [sumOf, Nat.add_zero] at h
    rw [List.drop_eq_nil_of_le (by omega)]; rfl
  | f :: fs, s, hr, h => by
    simp only [rowsOf, Bool.and_eq_true] at hr
    simp only [sumOf] at h
    have e := Nat.eq_of_beq_eq_true hr.1
    rw [List.map_cons, List.flatten_cons, chunks_flat P cs fs (s + P.cellsOf f.type) hr.2 (by omega), e]
    conv => rhs; rw [← List.take_append_drop (P.cellsOf f.type) (cs.drop s)]
    rw [List.drop_drop]
theorem dec_struct {fs : Array Field} {ts : List TypeId} {α : Type} {e : α → List Value} {ok : α → Prop} (ht : P.underlying t = some (.struct fs)) (hts : fs.toList.map (·.type) = ts) (hr : rowsOf P fs.toList 0 = true) (hs : Nat.beq (sumOf P fs.toList) (P.cellsOf t) = true) (h : DecL B enc P W ts e ok) : Dec B enc P W t e ok := by
  intro n cs y hy hb
  obtain ⟨xs, m, _, hyx, hl, hxl, hx⟩ := DataW.trod_struct ht hy
  rw [hyx] at hb
  simp only [Rows.uptoBulk] at hb
  have hs' := Nat.eq_of_beq_eq_true hs
  have hflat := chunks_flat P cs fs.toList 0 hr (by omega)
  rw [List.drop_zero] at hflat
  rw [← hflat]
  refine h m _ (by rw [← hts]; simp) ?_
  intro i t c h1 h2
  rw [← hts, List.getElem?_map] at h1
  rw [List.getElem?_map] at h2
  cases hf : fs.toList[i]? with
  | none => rw [hf] at h1; cases h1
  | some f =>
    rw [hf] at h1 h2
    simp only [Option.map_some, Option.some.injEq] at h1 h2
    subst h1 h2
    have h3 := hx i f (by simpa using hf)
    have hi : i < fs.size := by
      have := (List.getElem?_eq_some_iff.1 hf).1
      simpa using this
    have hxi : i < xs.length := by omega
    rw [List.getElem?_eq_getElem hxi] at h3
    have := bulk_mem (List.mem_map.2 ⟨_, List.getElem_mem hxi, rfl⟩ : (xs[i]).1 ∈ xs.map (·.1))
    exact ⟨_, h3, by omega⟩
/-- A slice: its value, and what its elements are. -/
theorem dec_slice {et : TypeId} {sz : Nat} {α : Type} {e : α → List Value} {ok : α → Prop} (ht : P.underlying t = some (.slice et)) (hsz : P.cellsOf et = sz) (h0 : 0 < sz) (h : Dec B enc P W et e ok) :
    Dec B enc P W t (fun c : Value × List α => [c.1]) (fun c => RowAt W c.1 sz (c.2.map e) ∧ (∀ x ∈ c.2, ok x) ∧ c.2.length ≤ maxLen ∧ c.2.length ≤ B) := by
  intro n cs y hy hb
  rcases Deep.open_slice ht hy with ⟨rfl, _⟩ | ⟨a, len, cap, m, n', D, Pl, rfl, _, hlc, hm, hmm, hyx, hi⟩
  · exact ⟨(.slice none 0 0, []), ⟨⟨none, 0, rfl, by simp⟩, by simp, Nat.zero_le _, Nat.zero_le _⟩, rfl⟩
  · simp only [if_true] at hmm
    rw [hmm] at hi
    rw [hyx] at hb
    simp only [Rows.uptoBulk] at hb
    have hlenB := bulk_len ((List.range len).map D)
    rw [List.length_map, List.length_range] at hlenB
    have key : ∀ k : Nat, k ≤ len → ∃ l : List α, l.length = k ∧ (∀ x ∈ l, ok x) ∧ ∀ i (hi' : i < l.length), W.cells? 0 (a.add (i * sz)) sz = some (e l[i]) := by
      intro k
      induction k with
      | zero => intro _; exact ⟨[], rfl, by simp, fun i h => absurd h (by simp)⟩
      | succ k ih =>
        intro hk
        obtain ⟨l, h1, h2, h3⟩ := ih (by omega)
        obtain ⟨cs', h4, h5⟩ := hi k (by omega)
        have hbk := bulk_mem (List.mem_map.2 ⟨k, List.mem_range.2 (by omega), rfl⟩ : D k ∈ (List.range len).map D)
        obtain ⟨c, h6, rfl⟩ := h _ _ _ h5 (by show Rows.uptoBulk (D k) ≤ B; omega)
        refine ⟨l ++ [c], by simp [h1], fun x hx => ?_, fun i hi' => ?_⟩
        · rcases List.mem_append.1 hx with hx | hx
          · exact h2 x hx
          · simp at hx; rw [hx]; exact h6
        · by_cases hlt : i < l.length
          · rw [List.getElem_append_left hlt]; exact h3 i hlt
          · have : i = k := by simp at hi'; omega
            subst this
            rw [List.getElem_append_right (by omega)]
            rw [hsz] at h4
            simpa using h4

    obtain ⟨l, h1, h2, h3⟩ := key len (Nat.le_refl _)
    refine ⟨(.slice (some a) len cap, l), ⟨⟨some a, cap, by rw [List.length_map, h1], fun i c hc => ?_⟩, h2, by rw [h1]; omega, by rw [h1]; omega⟩, rfl⟩
    rw [List.getElem?_map] at hc
    cases hl : l[i]? with
    | none => rw [hl] at hc; cases hc
    | some x =>
      rw [hl] at hc
      simp only [Option.map_some, Option.some.injEq] at hc
      subst hc
      obtain ⟨hil, rfl⟩ := List.getElem?_eq_some_iff.1 hl
      obtain ⟨_, hlen, hcell⟩ := World.cells?_some (h3 i hil)
      have hsp : a.spot = none := by
        obtain ⟨_, hlen0, hcell0⟩ := World.cells?_some (h3 0 (by omega))
        have h4 := hcell0 0 h0
        rw [List.getElem?_eq_getElem (by omega)] at h4
        have := World.cell?_spot h4
        simpa [Addr.add] using this
      obtain ⟨b, o, sp⟩ := a
      subst hsp
      refine ⟨b, o, rfl, fun j u hj => ?_⟩
      have hjl : j < sz := by have := (List.getElem?_eq_some_iff.1 hj).1; omega
      have h5 := hcell j hjl
      rw [hj] at h5
      rw [← h5]
      congr 1
      unfold Addr.add
      split <;> split <;> simp_all
/-! An argument as a whole. -/
variable {v : Value} {d : DataW H} {ps : List MemPlace} {b0 : Nat} {rr : Reach}
theorem arg_int {k : IntKind} (ht : P.underlying t = some (.int k)) (hv : Value.okWide P W rr b0 t v) (h : DataW.Trod enc P W 0 (fun _ => true) true t v d ps) : ∃ n, v = .int k n ∧ k.min ≤ n ∧ n ≤ k.max := by
  obtain ⟨n, rfl, _, _, hw⟩ := open_int ht hv h
  simp only [Lit.wf, Bool.and_eq_true, decide_eq_true_eq] at hw
  exact ⟨n, rfl, hw⟩
theorem arg_bool (ht : P.underlying t = some .bool) (hv : Value.okWide P W rr b0 t v) (h : DataW.Trod enc P W 0 (fun _ => true) true t v d ps) : ∃ b, v = .bool b := by
  obtain ⟨b, rfl, _⟩ := open_bool ht hv h
  exact ⟨b, rfl⟩
theorem arg_str (ht : P.underlying t = some .string) (hv : Value.okWide P W rr b0 t v) (h : DataW.Trod enc P W 0 (fun _ => true) true t v d ps) : ∃ s : ByteArray, v = .string s ∧ d = .lit (.string s.data.toList) ∧ s.size ≤ maxLen := by
  obtain ⟨s, rfl, hd, _, hs⟩ := ChangeMaps.open_string ht hv h
  exact ⟨s, rfl, hd, hs⟩
theorem arg_struct {fs : Array Field} {α : Type} {e : α → List Value} {ok : α → Prop} (ht : P.underlying t = some (.struct fs)) (hv : Value.okWide P W rr b0 t v) (hd : Dec B enc P W t e ok) (h : DataW.Trod enc P W 0 (fun _ => true) true t v d ps) (hb : Rows.uptoBulk d ≤ B) : ∃ c, ok c ∧ v = .agg (e c).toArray := by
  obtain ⟨cs, rfl, _⟩ := okWide_struct ht hv
  obtain ⟨fuel, hf⟩ := h
  obtain ⟨c, hc, he⟩ := hd _ _ _ hf hb
  refine ⟨c, hc, ?_⟩
  rw [← he]; rfl
theorem arg_slice {et : TypeId} {α : Type} {ok : Value × List α → Prop} (ht : P.underlying t = some (.slice et)) (hv : Value.okWide P W rr b0 t v) (hd : Dec B enc P W t (fun c : Value × List α => [c.1]) ok) (h : DataW.Trod enc P W 0 (fun _ => true) true t v d ps) (hb : Rows.uptoBulk d ≤ B) : ∃ l, ok (v, l) := by
  obtain ⟨a, len, cap, rfl⟩ := okWide_slice ht hv
  obtain ⟨fuel, hf⟩ := h
  obtain ⟨⟨u, l⟩, hc, he⟩ := hd _ _ _ hf hb
  have : Value.slice a len cap = u := by simpa [Value.cells] using he
  subst this
  exact ⟨l, hc⟩
def layG (h : Array Obj) (g : Nat) (cs : List Value) : Array Obj := h.modify g fun o => match o with
  | Obj.cells _ t frozen => Obj.cells cs.toArray t frozen
  | o => o
def flatD {H : Type} : DataW H → List Value
  | .lit (.int k n) => [.int k n]
  | .agg l => l.flatMap fun d => match d with
    | .lit (.int k n) => [.int k n]
    | .agg l' => l'.flatMap fun d => match d with
      | .lit (.int k n) => [.int k n]
      | _ => []
    | _ => []
  | _ => []
end
end Go.Proofs.YtddiecdoaggaaaaGreatDoor
namespace Go.Proofs.YtddiecdoaggaaaaGreatDoor
open Go.RowKit Go.ChangeShapes Go.WideShapes

section
variable {H : Type} {enc : TypeId × Value → H} {P : Program} {W : World} {t : TypeId}
def wt (P : Program) (t : TypeId) (y : DataW H) : Prop := ∀ n ∈ y.weights P t, n ≤ reachBytes
theorem wt_each {ts : List TypeId} {ds : List (DataW H)} (h : (DataW.weightsEach P ts ds).all (· ≤ reachBytes) = true) {j : Nat} {d : DataW H} (ht : ts[j]? = some t) (hd : ds[j]? = some d) : wt P t d := fun n hn => by
  have := List.all_eq_true.1 h n (DataW.weights_mem_each ht hd n hn)
  simpa using this
def DecW (enc : TypeId × Value → H) (P : Program) (W : World) (t : TypeId) {α : Type} (e : α → List Value) (ok : α → Prop) : Prop :=
  ∀ n cs y, DataW.trod enc P W 0 (fun _ => true) true n t cs = some y → wt P t y.1 → ∃ c, ok c ∧ cs = e c
theorem wdec_of {α : Type} {e : α → List Value} {ok : α → Prop} (h : ∀ B, Dec B enc P W t e ok) : DecW enc P W t e ok := fun n cs y hy _ => h _ n cs y hy (Nat.le_refl _)
theorem wdec_str (ht : P.underlying t = some .string) : DecW enc P W t (fun s : ByteArray => [.string s]) (fun s => s.size ≤ reachBytes) := by
  intro n cs y h hb
  obtain ⟨s, rfl, hy, hs⟩ := DataW.trod_string ht h
  rw [hy] at hb
  have := hb s.data.toList.length (by simp [DataW.weights])
  exact ⟨s, by simpa using this, rfl⟩
def DecLW (enc : TypeId × Value → H) (P : Program) (W : World) (ts : List TypeId) {α : Type} (e : α → List Value) (ok : α → Prop) : Prop :=
  ∀ n (ch : List (List Value)), ch.length = ts.length → (∀ (i : Nat) (t : TypeId) (c : List Value), ts[i]? = some t → ch[i]? = some c → ∃ y, DataW.trod enc P W 0 (fun _ => true) true n t c = some y ∧ wt P t y.1) → ∃ c, ok c ∧ ch.flatten = e c
theorem wdecL_nil : DecLW enc P W [] (fun _ : Unit => []) (fun _ => True) := by
  intro n ch hl _
  have : ch = [] := List.eq_nil_of_length_eq_zero hl
  subst this
  exact ⟨(), trivial, rfl⟩
theorem wdecL_cons {ts : List TypeId} {α β : Type} {e : α → List Value} {ok : α → Prop} {e' : β → List Value} {ok' : β → Prop} (h : DecW enc P W t e ok) (h' : DecLW enc P W ts e' ok') : DecLW enc P W (t :: ts) (fun c : α × β => e c.1 ++ e' c.2) (fun c => ok c.1 ∧ ok' c.2) := by
  intro n ch hl hch
  match ch, hl with
  | c0 :: ch, hl =>
    obtain ⟨y, hy, hyb⟩ := hch 0 t c0 rfl rfl
    obtain ⟨a, ha, rfl⟩ := h n c0 y hy hyb
    obtain ⟨b, hb, hb'⟩ := h' n ch (by simpa using hl) (fun i t c h1 h2 => hch (i + 1) t c (by simpa using h1) (by simpa using h2))
    exact ⟨(a, b), ⟨ha, hb⟩, by rw [List.flatten_cons, hb']⟩
theorem weightsAll_mem {e : TypeId} : ∀ {l : List (DataW H)} {d : DataW H} {n : Nat}, d ∈ l → n ∈ d.weights P e → n ∈ DataW.weightsAll P e l
  | [], _, _, h, _ => by cases h
  | x :: l, d, n, h, hn => by
    rw [DataW.weightsAll, List.mem_append]
    rcases List.mem_cons.1 h with rfl | h
    · exact .inl hn
    · exact .inr (weightsAll_mem h hn)
theorem weights_slice {et : TypeId} (ht : P.underlying t = some (.slice et)) {elems spare : List (DataW H)} {d : DataW H} {n : Nat} (hd : d ∈ elems) (hn : n ∈ d.weights P et) : n ∈ (DataW.slice elems spare).weights P t := by
  have : (DataW.slice elems spare).weights P t = (elems.length + spare.length) * P.bytesOf et :: (DataW.weightsAll P et elems ++ DataW.weightsAll P et spare) := by simp [DataW.weights, ht]
  rw [this]
  exact List.mem_cons_of_mem _ (List.mem_append.2 (.inl (weightsAll_mem hd hn)))
theorem wdec_struct {fs : Array Field} {ts : List TypeId} {α : Type} {e : α → List Value} {ok : α → Prop} (ht : P.underlying t = some (.struct fs)) (hts : fs.toList.map (·.type) = ts) (hr : rowsOf P fs.toList 0 = true) (hs : Nat.beq (sumOf P fs.toList) (P.cellsOf t) = true) (h : DecLW enc P W ts e ok) : DecW enc P W t e ok := by
  intro n cs y hy hb
  obtain ⟨xs, m, _, hyx, hl, hxl, hx⟩ := DataW.trod_struct ht hy
  rw [hyx] at hb
  have hs' := Nat.eq_of_beq_eq_true hs
  have hflat := chunks_flat P cs fs.toList 0 hr (by omega)
  rw [List.drop_zero] at hflat
  rw [← hflat]
  refine h m _ (by rw [← hts]; simp) ?_
  intro i t c h1 h2
  rw [← hts, List.getElem?_map] at h1
  rw [List.getElem?_map] at h2
  cases hf : fs.toList[i]? with
  | none => rw [hf] at h1; cases h1
  | some f =>
    rw [hf] at h1 h2
    simp only [Option.map_some, Option.some.injEq] at h1 h2
    subst h1 h2
    have h3 := hx i f (by simpa using hf)
    have hi : i < fs.size := by
      have := (List.getElem?_eq_some_iff.1 hf).1
      simpa using this
    have hxi : i < xs.length := by omega
    rw [List.getElem?_eq_getElem hxi] at h3
    refine ⟨_, h3, fun n hn => hb n ?_⟩
    have hw : (DataW.agg (xs.map (·.1))).weights P t = DataW.weightsEach P (fs.toList.map (·.type)) (xs.map (·.1)) := by simp [DataW.weights, ht]
    rw [hw]
    exact DataW.weights_mem_each (by rw [List.getElem?_map, hf]; rfl) (by rw [List.getElem?_map, List.getElem?_eq_getElem hxi]; rfl) n hn
/-- A slice: its value, and what its elements are. -/
theorem wdec_slice {et : TypeId} {sz : Nat} {α : Type} {e : α → List Value} {ok : α → Prop} (ht : P.underlying t = some (.slice et)) (hsz : P.cellsOf et = sz) (h0 : 0 < sz) (h : DecW enc P W et e ok) :
    DecW enc P W t (fun c : Value × List α => [c.1]) (fun c => RowAt W c.1 sz (c.2.map e) ∧ (∀ x ∈ c.2, ok x) ∧ c.2.length ≤ maxLen) := by
  intro n cs y hy hb
  rcases Deep.open_slice ht hy with ⟨rfl, _⟩ | ⟨a, len, cap, m, n', D, Pl, rfl, _, hlc, hm, hmm, hyx, hi⟩
  · exact ⟨(.slice none 0 0, []), ⟨⟨none, 0, rfl, by simp⟩, by simp, Nat.zero_le _⟩, rfl⟩
  · simp only [if_true] at hmm
    rw [hmm] at hi
    rw [hyx] at hb
    have key : ∀ k : Nat, k ≤ len → ∃ l : List α, l.length = k ∧ (∀ x ∈ l, ok x) ∧ ∀ i (hi' : i < l.length), W.cells? 0 (a.add (i * sz)) sz = some (e l[i]) := by
      intro k
      induction k with
      | zero => intro _; exact ⟨[], rfl, by simp, fun i h => absurd h (by simp)⟩
      | succ k ih =>
        intro hk
        obtain ⟨l, h1, h2, h3⟩ := ih (by omega)
        obtain ⟨cs', h4, h5⟩ := hi k (by omega)
        obtain ⟨c, h6, rfl⟩ := h _ _ _ h5 (fun n hn => hb n (weights_slice ht (List.mem_map.2 ⟨k, List.mem_range.2 (by omega), rfl⟩ : D k ∈ (List.range len).map D) hn))
        refine ⟨l ++ [c], by simp [h1], fun x hx => ?_, fun i hi' => ?_⟩
        · rcases List.mem_append.1 hx with hx | hx
          · exact h2 x hx
          · simp at hx; rw [hx]; exact h6
        · by_cases hlt : i < l.length
          · rw [List.getElem_append_left hlt]; exact h3 i hlt
          · have : i = k := by simp at hi'; omega
            subst this
            rw [List.getElem_append_right (by omega)]
            rw [hsz] at h4
            simpa using h4

    obtain ⟨l, h1, h2, h3⟩ := key len (Nat.le_refl _)
    refine ⟨(.slice (some a) len cap, l), ⟨⟨some a, cap, by rw [List.length_map, h1], fun i c hc => ?_⟩, h2, by rw [h1]; omega⟩, rfl⟩
    rw [List.getElem?_map] at hc
    cases hl : l[i]? with
    | none => rw [hl] at hc; cases hc
    | some x =>
      rw [hl] at hc
      simp only [Option.map_some, Option.some.injEq] at hc
      subst hc
      obtain ⟨hil, rfl⟩ := List.getElem?_eq_some_iff.1 hl
      obtain ⟨_, hlen, hcell⟩ := World.cells?_some (h3 i hil)
      have hsp : a.spot = none := by
        obtain ⟨_, hlen0, hcell0⟩ := World.cells?_some (h3 0 (by omega))
        have h4 := hcell0 0 h0
        rw [List.getElem?_eq_getElem (by omega)] at h4
        have := World.cell?_spot h4
        simpa [Addr.add] using this
      obtain ⟨b, o, sp⟩ := a
      subst hsp
      refine ⟨b, o, rfl, fun j u hj => ?_⟩
      have hjl : j < sz := by have := (List.getElem?_eq_some_iff.1 hj).1; omega
      have h5 := hcell j hjl
      rw [hj] at h5
      rw [← h5]
      congr 1
      unfold Addr.add
      split <;> split <;> simp_all
/-! An argument as a whole. -/
variable {v : Value} {d : DataW H} {ps : List MemPlace} {b0 : Nat} {rr : Reach}
theorem warg_struct {fs : Array Field} {α : Type} {e : α → List Value} {ok : α → Prop} (ht : P.underlying t = some (.struct fs)) (hv : Value.okWide P W rr b0 t v) (hd : DecW enc P W t e ok) (h : DataW.Trod enc P W 0 (fun _ => true) true t v d ps) (hb : wt P t d) : ∃ c, ok c ∧ v = .agg (e c).toArray := by
  obtain ⟨cs, rfl, _⟩ := okWide_struct ht hv
  obtain ⟨fuel, hf⟩ := h
  obtain ⟨c, hc, he⟩ := hd _ _ _ hf hb
  refine ⟨c, hc, ?_⟩
  rw [← he]; rfl
theorem warg_slice {et : TypeId} {α : Type} {ok : Value × List α → Prop} (ht : P.underlying t = some (.slice et)) (hv : Value.okWide P W rr b0 t v) (hd : DecW enc P W t (fun c : Value × List α => [c.1]) ok) (h : DataW.Trod enc P W 0 (fun _ => true) true t v d ps) (hb : wt P t d) : ∃ l, ok (v, l) := by
  obtain ⟨a, len, cap, rfl⟩ := okWide_slice ht hv
  obtain ⟨fuel, hf⟩ := h
  obtain ⟨⟨u, l⟩, hc, he⟩ := hd _ _ _ hf hb
  have : Value.slice a len cap = u := by simpa [Value.cells] using he
  subst this
  exact ⟨l, hc⟩
end
end Go.Proofs.YtddiecdoaggaaaaGreatDoor
namespace Go.Proofs.YtddiecdoaggaaaaGreatDoor
open Go.ChangeShapes Go.WideShapes Go.ChangeAt Go.RowKit
variable {H : Type} {enc : TypeId × Value → H} {P : Program} {W : World} {t : TypeId}
def RowN (w : World) (v : Value) (sz : Nat) (xs : List (List Value)) : Prop := ∃ ea cap, v = .slice ea xs.length cap ∧ xs.length ≤ cap ∧ (ea = none → cap = 0) ∧ ∀ i c, xs[i]? = some c → ∃ b o, ea = some ⟨b, o, none⟩ ∧ ∀ j u, c[j]? = some u → w.cell? ⟨b, o + i * sz + j, none⟩ = some u
theorem wdec_sliceN {et : TypeId} {sz : Nat} {α : Type} {e : α → List Value} {ok : α → Prop} (ht : P.underlying t = some (.slice et)) (hsz : P.cellsOf et = sz) (h0 : 0 < sz) (h : DecW enc P W et e ok) :
    DecW enc P W t (fun c : Value × List α => [c.1]) (fun c => RowN W c.1 sz (c.2.map e) ∧ (∀ x ∈ c.2, ok x) ∧ c.2.length ≤ maxLen) := by
  intro n cs y hy hb
  have hy0 := hy
  obtain ⟨⟨v, l⟩, ⟨⟨ea, cap, hv, hc⟩, h2, h3⟩, he⟩ := wdec_slice ht hsz h0 h n cs y hy hb
  have key : (l.map e).length ≤ cap ∧ (ea = none → cap = 0) := by
    dsimp only at hv he
    subst hv
    rcases Deep.open_slice ht hy0 with ⟨rfl, _⟩ | ⟨a, len, cap', m, n', D, Pl, rfl, _, hlc, hm, hmm, hyx, hi⟩
    · injection (List.cons.inj he).1 with e1 e2 e3
      omega
    · injection (List.cons.inj he).1 with e1 e2 e3
      exact ⟨by omega, fun h => by rw [h] at e1; cases e1⟩
  exact ⟨(v, l), ⟨⟨ea, cap, hv, key.1, key.2, hc⟩, h2, h3⟩, he⟩
theorem rowIs_of_rowN {α : Type} {f : α → List Value} {w : World} {v : Value} {sz : Nat} {l : List α} (h : RowN w v sz (l.map f)) (hk : ∀ x, (f x).length = sz) (h0 : 0 < sz) : ∃ ea cap, v = .slice ea l.length cap ∧ RowIs w ea l.length cap sz (l.flatMap f) := by
  obtain ⟨ea, cap, hv, h1, h2, h3⟩ := h
  rw [List.length_map] at hv h1
  refine ⟨ea, cap, hv, h1, h2, len_flat hk l, fun j u hj => ?_⟩
  have hlt : j < l.length * sz := by rw [← len_flat hk l]; exact (List.getElem?_eq_some_iff.1 hj).1
  rw [get_flat h0 hk l j hlt] at hj
  obtain ⟨x, hx, hu⟩ := Option.bind_eq_some_iff.1 hj
  obtain ⟨b, o, he, hc⟩ := h3 (j / sz) (f x) (by rw [List.getElem?_map, hx]; rfl)
  refine ⟨_, he, ?_⟩
  have := hc (j % sz) u hu
  rw [addr_add]
  rw [← this]
  congr 2
  have := Nat.div_add_mod j sz
  rw [Nat.mul_comm] at this
  omega
end Go.Proofs.YtddiecdoaggaaaaGreatDoor
namespace Go.Proofs.YtddiecdoaggaaaaGreatDoor.SelectsLaw
open Go.ChangeShapes Go.WideShapes Go.ChangeAt Go.RowKit

theorem own : ownKnob Tryz.prog.godebug = none := by kernel_rfl
theorem laidOut : laidOutB Tryz.prog = true := by kernel_rfl
theorem params : Tryz.f3.params.toList.all (fun t => Tryz.prog.readableRec t && decide (t < Tryz.prog.types.size)) = true := by kernel_rfl
/-- A slice of strings within an argument. -/
theorem strs_of {P : Program} {W : World} {base : Nat} {v : Value} {l : List ByteArray} {t e : TypeId} (ht : P.underlying t = some (.slice e)) (hr : RowAt W v 1 (l.map fun s => [.string s])) (hk : Cell.okWide P W .any base t v) : ∃ ea cap, v = .slice ea l.length cap ∧ StrsAt W (.slice ea l.length cap) l ∧ (ea = none → cap = 0) := by
  obtain ⟨ea, cap, rfl, hc⟩ := hr
  rw [List.length_map] at hk ⊢
  simp only [Cell.okWide, ht] at hk
  have hcells : ∀ i s, l[i]? = some s → ∃ b o, ea = some ⟨b, o, none⟩ ∧ W.cell? ⟨b, o + i, none⟩ = some (.string s) := fun i s hi => by
    obtain ⟨b, o, h1, h2⟩ := hc i [.string s] (by rw [List.getElem?_map, hi]; rfl)
    refine ⟨b, o, h1, ?_⟩
    have := h2 0 (.string s) rfl
    simpa using this
  cases ea with
  | none =>
    have h0 : l.length = 0 ∧ cap = 0 := by
      unfold Cell.ok at hk
      rw [ht] at hk
      split at hk <;> simp_all
    obtain ⟨h0, rfl⟩ := h0
    exact ⟨none, 0, rfl, ⟨none, 0, rfl, ⟨by omega, fun a ha => by cases ha⟩, hcells⟩, fun _ => rfl⟩
  | some a =>
    have h1 : l.length ≤ cap ∧ a.block < W.heap.size := by
      unfold Cell.ok at hk
      rw [ht] at hk
      simp only [World.has] at hk
      obtain ⟨h1, _, _, _, row, cells, hs, _⟩ := hk
      refine ⟨h1, ?_⟩
      unfold World.shape? at hs
      cases hh : W.heap[a.block]? with
      | none => rw [hh] at hs; cases hs
      | some x => exact (Array.getElem?_eq_some_iff.1 hh).1
    exact ⟨some a, cap, rfl, ⟨some a, cap, rfl, ⟨h1.1, fun a' ha => by cases ha; exact h1.2⟩, hcells⟩, fun h => by cases h⟩
theorem cell_of_row {P : Program} {W : World} {base : Nat} {t u : TypeId} {ts : List TypeId} {v : Value} {cs : List Value} {i : Nat} (h : Value.okWide P W .any base t (.agg cs.toArray)) (ht : (match P.underlying t with | some (.struct _) => true | _ => false) = true) (hts : P.cellTypes P.depth t = some ts) (hu : ts[i % ts.length]? = some u) (hi : cs[i]? = some v) : Cell.okWide P W .any base u v := by
  unfold Value.okWide at h
  split at ht
  · rename_i fs hfs
    simp only [hfs] at h
    obtain ⟨cs', h1, _, ts', h2, _, h3⟩ := h
    injection h1 with h1
    subst h1
    rw [hts] at h2
    injection h2 with h2
    subst h2
    obtain ⟨u', h4, h5⟩ := h3 i v (by simpa using hi)
    rw [hu] at h4
    injection h4 with h4
    subst h4
    exact h5
  · cases ht
def eR (c : ByteArray × ByteArray × Int × Int × (Value × List ByteArray) × Unit) : List Value := [.string c.1, .string c.2.1, .int .i64 c.2.2.1, .int .i64 c.2.2.2.1, c.2.2.2.2.1.1]
abbrev ItC := List UInt8 × (Value × List ByteArray) × ByteArray × Int × Bool × ByteArray × Int × Unit
def eI (c : ItC) : List Value := bytesV c.1 ++ [c.2.1.1, .string c.2.2.1, .int .i64 c.2.2.2.1, .bool c.2.2.2.2.1, .string c.2.2.2.2.2.1, .int .i64 c.2.2.2.2.2.2.1]
def toIt (c : ItC) : ItX := { id := if h : c.1.length = 32 then ⟨c.1, h⟩ else ⟨List.replicate 32 0, List.length_replicate ..⟩, gv := c.2.1.1, gs := c.2.1.2, d := c.2.2.1, n := c.2.2.2.1, c := c.2.2.2.2.1, f := c.2.2.2.2.2.1, a := c.2.2.2.2.2.2.1 }
theorem cells_toIt {c : ItC} (h : c.1.length = 32) : (toIt c).cells = eI c := by
  unfold toIt ItX.cells
  rw [dif_pos h]
  rfl
theorem strsN_of_rowN {w : World} {v : Value} {l : List ByteArray} (h : RowN w v 1 (l.map fun s => [.string s])) : ∃ ea cap, v = .slice ea l.length cap ∧ StrsN w ea cap l := by
  obtain ⟨ea, cap, hv, h1, h2, h3⟩ := h
  rw [List.length_map] at hv h1
  refine ⟨ea, cap, hv, h1, h2, fun i s hi => ?_⟩
  obtain ⟨b, o, he, hc⟩ := h3 i [.string s] (by rw [List.getElem?_map, hi]; rfl)
  exact ⟨b, o, he, by have := hc 0 (.string s) rfl; simpa using this⟩
theorem its_of {w : World} {v : Value} {l : List ItC} (h : RowN w v 38 (l.map eI)) (hl : ∀ c ∈ l, c.1.length = 32) : ∃ ea cap, v = .slice ea l.length cap ∧ RowIs w ea l.length cap 38 ((l.map toIt).flatMap ItX.cells) := by
  have e : l.map eI = (l.map toIt).map ItX.cells := by
    rw [List.map_map]
    exact List.map_congr_left fun c hc => (cells_toIt (hl c hc)).symm
  rw [e] at h
  obtain ⟨ea, cap, hv, hI⟩ := rowIs_of_rowN h ItX.len (by decide)
  rw [List.length_map] at hv hI
  exact ⟨ea, cap, hv, hI⟩
set_option maxRecDepth 100000 in
theorem contract (H : Type) (enc : TypeId × Value → H) (W : World) (base : Nat) (args : Array Value) (ds gs : List (DataW H)) (before : List MemPlace)
    (hval : ∀ (j : Nat) t v, Tryz.f3.params[j]? = some t → args[j]? = some v → Value.okWide Tryz.prog W .any base t v)
    (hW : DataW.Whole enc Tryz.prog Tryz.f3.params.toList Rows.feedruleSelectsSpec.vars false W args.toList ds gs before) (_hL : laidMetH Tryz.prog Rows.feedruleSelectsRow.laid W) (hsh : W.ShapedOpen Tryz.prog) (hwt : (DataW.weightsEach Tryz.prog (Tryz.f3.params.toList ++ (OpenSpec.ofChange Rows.feedruleSelectsSpec).bare.plain.varTypes Tryz.prog) (ds ++ gs)).all (· ≤ reachBytes) = true) :
    Calls Tryz.prog 3 args W fun e W' => ∃ v, e = .returned v ∧ Rows.feedruleSelectsSpec.post enc Tryz.prog Tryz.f3 false true false false W args v W' := by
  have hW' := hW
  obtain ⟨p, q, hA, hV, rfl, hfz, hnd⟩ := hW
  have hp : ∀ t ∈ Tryz.f3.params.toList, Tryz.prog.readableRec t = true ∧ t < Tryz.prog.types.size := fun t ht => by simpa using List.all_eq_true.1 params t ht
  have hP : Tryz.f3.params = #[24, 25, 3] := by kernel_rfl
  rw [hP] at hA hval
  obtain ⟨v0, vs0, d0, ds0, p0, q0, hargs, rfl, rfl, h0, r0⟩ := trodAll_cons hA
  obtain ⟨v1, vs1, d1, ds1, p1, q1, rfl, rfl, rfl, h1, r1⟩ := trodAll_cons r0
  obtain ⟨v2, vs2, d2, ds2, p2, q2, rfl, rfl, rfl, h2, r2⟩ := trodAll_cons r1
  obtain ⟨rfl, rfl, rfl⟩ := trodAll_nil r2
  obtain rfl : args = #[v0, v1, v2] := by cases args; simp_all
  have hv0 := hval 0 24 v0 (by simp) (by simp)
  have hv1 := hval 1 25 v1 (by simp) (by simp)
  have hv2 := hval 2 3 v2 (by simp) (by simp)
  rw [hP] at hwt
  have hw0 : wt Tryz.prog 24 d0 := wt_each (j := 0) hwt rfl rfl
  have hw1 : wt Tryz.prog 25 d1 := wt_each (j := 1) hwt rfl rfl
  have hstrs : DecW enc Tryz.prog W 22 (fun c : Value × List ByteArray => [c.1]) (fun c => RowAt W c.1 1 (c.2.map fun s => [.string s]) ∧ (∀ x ∈ c.2, x.size ≤ reachBytes) ∧ c.2.length ≤ maxLen) := wdec_slice Tryz.underlying22 (by kernel_rfl : Tryz.prog.cellsOf 9 = 1) (by decide) (wdec_str Tryz.underlying9)
  have hdR := wdec_struct (W := W) (enc := enc) (t := 24) Tryz.underlying24 rfl (by kernel_rfl) (by kernel_rfl) (wdecL_cons (wdec_str Tryz.underlying9) (wdecL_cons (wdec_str Tryz.underlying9) (wdecL_cons (wdec_of fun _ => dec_int Tryz.underlying3) (wdecL_cons (wdec_of fun _ => dec_int Tryz.underlying3) (wdecL_cons hstrs wdecL_nil)))))
  have hstrN : DecW enc Tryz.prog W 22 (fun c : Value × List ByteArray => [c.1]) (fun c => RowN W c.1 1 (c.2.map fun s => [.string s]) ∧ (∀ x ∈ c.2, x.size ≤ reachBytes) ∧ c.2.length ≤ maxLen) := wdec_sliceN Tryz.underlying22 (by kernel_rfl : Tryz.prog.cellsOf 9 = 1) (by decide) (wdec_str Tryz.underlying9)
  have hdI := wdec_struct (W := W) (enc := enc) (t := 72) Tryz.underlying72 rfl (by kernel_rfl) (by kernel_rfl) (wdecL_cons (wdec_of fun _ => dec_bytes (n := 32) Tryz.underlying42 Tryz.underlying5 (by kernel_rfl) (by kernel_rfl)) (wdecL_cons hstrN (wdecL_cons (wdec_str Tryz.underlying9) (wdecL_cons (wdec_of fun _ => dec_int Tryz.underlying3) (wdecL_cons (wdec_of fun _ => dec_bool Tryz.underlying4) (wdecL_cons (wdec_str Tryz.underlying9) (wdecL_cons (wdec_of fun _ => dec_int Tryz.underlying3) wdecL_nil)))))))
  have hdL := wdec_sliceN (t := 25) Tryz.underlying25 (by kernel_rfl : Tryz.prog.cellsOf 72 = 38) (by decide) hdI
  obtain ⟨⟨nb, pats, mb, dl, ⟨dv, dists⟩, ⟨⟩⟩, ⟨hnb, hps, hmb, hdl, ⟨hdr, hds, hdn⟩, _⟩, rfl⟩ := warg_struct Tryz.underlying24 hv0 hdR h0 hw0
  obtain ⟨l, hrow, hok, hlen⟩ := warg_slice Tryz.underlying25 hv1 hdL h1 hw1
  obtain ⟨n1, rfl, -, -⟩ := arg_int Tryz.underlying3 hv2 h2
  obtain ⟨m, hm⟩ := cell_of_shapedOpen_int (g := 0) (zero := #[.int .i64 0]) (t := 3) hsh (of_decide_eq_true (by kernel_rfl)) (by kernel_rfl) rfl (by kernel_rfl) (by kernel_rfl) (by kernel_rfl)
  dsimp only at hnb hps hmb hdl hdr hds hdn hv0 hrow hlen
  have hk0 : Cell.okWide Tryz.prog W .any base 22 dv := cell_of_row (i := 4) (ts := [9, 9, 3, 3, 22]) hv0 (by kernel_rfl) (by kernel_rfl) rfl rfl
  obtain ⟨ea0, cap0, rfl, hS0, -⟩ := strs_of Tryz.underlying22 hdr hk0
  obtain ⟨ea, cap, rfl, hI⟩ := its_of hrow fun c hc => (hok c hc).1
  have hl : (l.map toIt).length = l.length := List.length_map _
  rw [← hl] at hI
  have hlaw := feedSelects_any nb pats mb dl _ dists ea cap (l.map toIt) n1 m W hm (Nat.le_trans hnb (by decide)) (Nat.le_trans hps (by decide)) hS0 hdn (fun s hs => Nat.le_trans (hds s hs) (by decide)) hI (fun x hx => by
    obtain ⟨c, hc, rfl⟩ := List.mem_map.1 hx
    obtain ⟨-, ⟨hgr, hgs, hgn⟩, _, _, _, _, ha, _⟩ := hok c hc
    obtain ⟨xe, xc, h1, h2⟩ := strsN_of_rowN hgr
    exact ⟨⟨xe, xc, h1, h2, hgn⟩, fun s hs => Nat.le_trans (hgs s hs) (by decide), ha.1, ha.2⟩) (fun x hx => by
    obtain ⟨c, hc, rfl⟩ := List.mem_map.1 hx
    obtain ⟨-, ⟨-, hgs, -⟩, _⟩ := hok c hc
    exact fun s hs => Nat.le_trans (hgs s hs) (by decide)) (by rw [hl]; exact hlen)
  rw [hl] at hlaw
  exact hlaw.mono fun e W' h => ⟨_, h.1, law_post (tb := 4) laidOut (by kernel_rfl) (by kernel_rfl) hp (by kernel_rfl) rfl hW' h.2⟩
/-! The witness. -/
noncomputable def laidWorld (os : Os) : World := { World.holding Tryz.prog os ⟨#[], #[], []⟩ with heap := layG (layG ((World.holding Tryz.prog os ⟨#[], #[], []⟩).heap) 2 (flatD (H := Unit) Rows.laid_unicode_utf8_acceptRanges)) 1 (flatD (H := Unit) Rows.laid_unicode_utf8_first) }
theorem laid_met (os : Os) : laidMet Tryz.prog Rows.feedruleSelectsRow.laid ((laidWorld os).forCall (fun _ _ => 0) ⟨#[], #[.agg #[.string ⟨#[]⟩, .string ⟨#[]⟩, .int .i64 0, .int .i64 0, .slice none 0 0], .slice none 0 0, .int .i64 0], []⟩).memory :=
  laidMet_of_run' 8 (by kernel_rfl) (by kernel_rfl)
theorem reads (os : Os) {H : Type} (enc : TypeId × Value → H) : ∃ places, DataW.whole enc Tryz.prog ((laidWorld os).forCall (fun _ _ => 0) ⟨#[], #[.agg #[.string ⟨#[]⟩, .string ⟨#[]⟩, .int .i64 0, .int .i64 0, .slice none 0 0], .slice none 0 0, .int .i64 0], []⟩).memory Tryz.f3.params.toList Rows.feedruleSelectsSpec.vars false #[.agg #[.string ⟨#[]⟩, .string ⟨#[]⟩, .int .i64 0, .int .i64 0, .slice none 0 0], .slice none 0 0, .int .i64 0].toList 8 = some ([.agg [.lit (.string []), .lit (.string []), .lit (.int .i64 0), .lit (.int .i64 0), .nil], .nil, .lit (.int .i64 0)], [], places) :=
  ⟨[], by kernel_rfl⟩
set_option maxRecDepth 100000 in
theorem lifted (os : Os) (started : os.Started) (H : Type) (enc : TypeId × Value → H) (F : Stop.Interp) :
    ReturnsInHanded {} Tryz.checked os 3 .any ((OpenSpec.ofChange Rows.feedruleSelectsSpec).preRow enc Tryz.prog Tryz.f3 Rows.feedruleSelectsRow.domain false Rows.feedruleSelectsRow.laid) (((OpenSpec.ofChange Rows.feedruleSelectsSpec).at F).post enc Tryz.prog Tryz.f3 false true false false) := by
  obtain ⟨places, hx⟩ := reads os enc
  refine returnsInHanded_of_row (C := Tryz.checked) (s := OpenSpec.ofChange Rows.feedruleSelectsSpec) own started (by kernel_rfl) Tryz.func3
    (witness_row_at (enc := enc) (C := Tryz.checked) false (laidWorld os) #[.agg #[.string ⟨#[]⟩, .string ⟨#[]⟩, .int .i64 0, .int .i64 0, .slice none 0 0], .slice none 0 0, .int .i64 0] rfl (by kernel_rfl) (by kernel_rfl) (by kernel_rfl)
      (OpenSpec.preRow_of_cond 8 hx (by kernel_rfl) (fun k hk => by cases hk) (by kernel_rfl) (laid_met os))) ?_
  intro W base args ds gs before hval hW _ hcond hwt hL hsh _
  exact contract H enc W base args ds gs before hval hW hL hsh hwt
theorem said : Rows.FeedruleSelectsSaid :=
  OpenClaim.holds_of_cond 3 Tryz.f3 rfl rfl rfl rfl rfl rfl rfl ⟨rfl, rfl, rfl, rfl, rfl⟩ rfl rfl rfl rfl rfl (by kernel_rfl) Tryz.func3 (by kernel_rfl)
    (of_decide_eq_true (by kernel_rfl)) (by unfold Func.isWrapper; first | (rw [if_pos (by decide +kernel)]; kernel_rfl) | (rw [if_neg (by decide +kernel)]; exact ⟨rfl, rfl⟩))
    (fun os started H enc _ F => by rw [OpenClaim.pre_eq_preRow]; exact lifted os started H enc F)
/-- No parameter wants a stand-in; the program's own looks are off. -/
theorem plain (f : FuncId) (fn : Func) (hf : Tryz.pinned.checked.prog.funcNamed "bulletin/bulletinlaw37.FeedruleSelects" = some f) (hfn : Tryz.pinned.checked.prog.funcs[f]? = some fn) :
    false = Tryz.pinned.checked.prog.looks [] ∧ ∀ (j : Nat) t, fn.params[j]? = some t → Tryz.pinned.checked.prog.wantsStandIn t = false := by
  obtain rfl : f = 3 := Option.some.inj ((show Tryz.prog.funcNamed "bulletin/bulletinlaw37.FeedruleSelects" = some 3 by kernel_rfl).symm.trans hf) |>.symm
  obtain rfl : fn = Tryz.f3 := (Option.some.inj (Tryz.func3.symm.trans hfn)).symm
  refine ⟨by kernel_rfl, fun j t ht => ?_⟩
  have key : (Tryz.f3.params.toList.all fun t => !Tryz.prog.wantsStandIn t) = true := by kernel_rfl
  have := List.all_eq_true.1 key t (by simpa using Array.mem_of_getElem? ht)
  show Tryz.prog.wantsStandIn t = false
  simpa using this
theorem card : Rows.FeedruleSelectsCardSaid :=
  Claim7.holds_tied_plain_at .later [] _ _ _ _ said (fun _ h => by cases h) (by kernel_rfl) (fun _ h => by cases h) feedruleSelects_row_tie rfl ⟨rfl, rfl⟩ (by kernel_rfl) rfl plain (by kernel_rfl)

end Go.Proofs.YtddiecdoaggaaaaGreatDoor.SelectsLaw
