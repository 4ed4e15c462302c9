/- How arguments read, with the weights that the form allows: each string has at most 2^47 - 4096 bytes. -/
import Derived.Test.YtddiecdoaggaaaaDoorTop
import Derived.SizedLaws
namespace Go.Proofs.YtddiecdoaggaaaaDoor
open Go.RowKit Go.ChangeShapes Go.WideShapes

section
variable {H : Type} {enc : TypeId × Value → H} {P : Program} {W : World} {t : TypeId}
def wt (P : Program) (t : TypeId) (y : DataW H) : Prop := ∀ n ∈ y.weights P t, n ≤ reachBytes
theorem wt_each {ts : List TypeId} {ds : List (DataW H)} (h : (DataW.weightsEach P ts ds).all (· ≤ reachBytes) = true) {j : Nat} {d : DataW H} (ht : ts[j]? = some t) (hd : ds[j]? = some d) : wt P t d := fun n hn => by
  have := List.all_eq_true.1 h n (DataW.weights_mem_each ht hd n hn)
  simpa using this
def DecW (enc : TypeId × Value → H) (P : Program) (W : World) (t : TypeId) {α : Type} (e : α → List Value) (ok : α → Prop) : Prop :=
  ∀ n cs y, DataW.trod enc P W 0 (fun _ => true) true n t cs = some y → wt P t y.1 → ∃ c, ok c ∧ cs = e c
theorem wdec_of {α : Type} {e : α → List Value} {ok : α → Prop} (h : ∀ B, Dec B enc P W t e ok) : DecW enc P W t e ok := fun n cs y hy _ => h _ n cs y hy (Nat.le_refl _)
theorem wdec_str (ht : P.underlying t = some .string) : DecW enc P W t (fun s : ByteArray => [.string s]) (fun s => s.size ≤ reachBytes) := by
  intro n cs y h hb
  obtain ⟨s, rfl, hy, hs⟩ := DataW.trod_string ht h
  rw [hy] at hb
  have := hb s.data.toList.length (by simp [DataW.weights])
  exact ⟨s, by simpa using this, rfl⟩
def DecLW (enc : TypeId × Value → H) (P : Program) (W : World) (ts : List TypeId) {α : Type} (e : α → List Value) (ok : α → Prop) : Prop :=
  ∀ n (ch : List (List Value)), ch.length = ts.length → (∀ (i : Nat) (t : TypeId) (c : List Value), ts[i]? = some t → ch[i]? = some c → ∃ y, DataW.trod enc P W 0 (fun _ => true) true n t c = some y ∧ wt P t y.1) → ∃ c, ok c ∧ ch.flatten = e c
theorem wdecL_nil : DecLW enc P W [] (fun _ : Unit => []) (fun _ => True) := by
  intro n ch hl _
  have : ch = [] := List.eq_nil_of_length_eq_zero hl
  subst this
  exact ⟨(), trivial, rfl⟩
theorem wdecL_cons {ts : List TypeId} {α β : Type} {e : α → List Value} {ok : α → Prop} {e' : β → List Value} {ok' : β → Prop} (h : DecW enc P W t e ok) (h' : DecLW enc P W ts e' ok') : DecLW enc P W (t :: ts) (fun c : α × β => e c.1 ++ e' c.2) (fun c => ok c.1 ∧ ok' c.2) := by
  intro n ch hl hch
  match ch, hl with
  | c0 :: ch, hl =>
    obtain ⟨y, hy, hyb⟩ := hch 0 t c0 rfl rfl
    obtain ⟨a, ha, rfl⟩ := h n c0 y hy hyb
    obtain ⟨b, hb, hb'⟩ := h' n ch (by simpa using hl) (fun i t c h1 h2 => hch (i + 1) t c (by simpa using h1) (by simpa using h2))
    exact ⟨(a, b), ⟨ha, hb⟩, by rw [List.flatten_cons, hb']⟩
theorem weightsAll_mem {e : TypeId} : ∀ {l : List (DataW H)} {d : DataW H} {n : Nat}, d ∈ l → n ∈ d.weights P e → n ∈ DataW.weightsAll P e l
  | [], _, _, h, _ => by cases h
  | x :: l, d, n, h, hn => by
    rw [DataW.weightsAll, List.mem_append]
    rcases List.mem_cons.1 h with rfl | h
    · exact .inl hn
    · exact .inr (weightsAll_mem h hn)
theorem weights_slice {et : TypeId} (ht : P.underlying t = some (.slice et)) {elems spare : List (DataW H)} {d : DataW H} {n : Nat} (hd : d ∈ elems) (hn : n ∈ d.weights P et) : n ∈ (DataW.slice elems spare).weights P t := by
  have : (DataW.slice elems spare).weights P t = (elems.length + spare.length) * P.bytesOf et :: (DataW.weightsAll P et elems ++ DataW.weightsAll P et spare) := by simp [DataW.weights, ht]
  rw [this]
  exact List.mem_cons_of_mem _ (List.mem_append.2 (.inl (weightsAll_mem hd hn)))
theorem wdec_struct {fs : Array Field} {ts : List TypeId} {α : Type} {e : α → List Value} {ok : α → Prop} (ht : P.underlying t = some (.struct fs)) (hts : fs.toList.map (·.type) = ts) (hr : rowsOf P fs.toList 0 = true) (hs : Nat.beq (sumOf P fs.toList) (P.cellsOf t) = true) (h : DecLW enc P W ts e ok) : DecW enc P W t e ok := by
  intro n cs y hy hb
  obtain ⟨xs, m, _, hyx, hl, hxl, hx⟩ := DataW.trod_struct ht hy
  rw [hyx] at hb
  have hs' := Nat.eq_of_beq_eq_true hs
  have hflat := chunks_flat P cs fs.toList 0 hr (by omega)
  rw [List.drop_zero] at hflat
  rw [← hflat]
  refine h m _ (by rw [← hts]; simp) ?_
  intro i t c h1 h2
  rw [← hts, List.getElem?_map] at h1
  rw [List.getElem?_map] at h2
  cases hf : fs.toList[i]? with
  | none => rw [hf] at h1; cases h1
  | some f =>
    rw [hf] at h1 h2
    simp only [Option.map_some, Option.some.injEq] at h1 h2
    subst h1 h2
    have h3 := hx i f (by simpa using hf)
    have hi : i < fs.size := by
      have := (List.getElem?_eq_some_iff.1 hf).1
      simpa using this
    have hxi : i < xs.length := by omega
    rw [List.getElem?_eq_getElem hxi] at h3
    refine ⟨_, h3, fun n hn => hb n ?_⟩
    have hw : (DataW.agg (xs.map (·.1))).weights P t = DataW.weightsEach P (fs.toList.map (·.type)) (xs.map (·.1)) := by simp [DataW.weights, ht]
    rw [hw]
    exact DataW.weights_mem_each (by rw [List.getElem?_map, hf]; rfl) (by rw [List.getElem?_map, List.getElem?_eq_getElem hxi]; rfl) n hn
/-- A slice: its value, and what its elements are. -/
theorem wdec_slice {et : TypeId} {sz : Nat} {α : Type} {e : α → List Value} {ok : α → Prop} (ht : P.underlying t = some (.slice et)) (hsz : P.cellsOf et = sz) (h0 : 0 < sz) (h : DecW enc P W et e ok) :
    DecW enc P W t (fun c : Value × List α => [c.1]) (fun c => RowAt W c.1 sz (c.2.map e) ∧ (∀ x ∈ c.2, ok x) ∧ c.2.length ≤ maxLen) := by
  intro n cs y hy hb
  rcases Deep.open_slice ht hy with ⟨rfl, _⟩ | ⟨a, len, cap, m, n', D, Pl, rfl, _, hlc, hm, hmm, hyx, hi⟩
  · exact ⟨(.slice none 0 0, []), ⟨⟨none, 0, rfl, by simp⟩, by simp, Nat.zero_le _⟩, rfl⟩
  · simp only [if_true] at hmm
    rw [hmm] at hi
    rw [hyx] at hb
    have key : ∀ k : Nat, k ≤ len → ∃ l : List α, l.length = k ∧ (∀ x ∈ l, ok x) ∧ ∀ i (hi' : i < l.length), W.cells? 0 (a.add (i * sz)) sz = some (e l[i]) := by
      intro k
      induction k with
      | zero => intro _; exact ⟨[], rfl, by simp, fun i h => absurd h (by simp)⟩
      | succ k ih =>
        intro hk
        obtain ⟨l, h1, h2, h3⟩ := ih (by omega)
        obtain ⟨cs', h4, h5⟩ := hi k (by omega)
        obtain ⟨c, h6, rfl⟩ := h _ _ _ h5 (fun n hn => hb n (weights_slice ht (List.mem_map.2 ⟨k, List.mem_range.2 (by omega), rfl⟩ : D k ∈ (List.range len).map D) hn))
        refine ⟨l ++ [c], by simp [h1], fun x hx => ?_, fun i hi' => ?_⟩
        · rcases List.mem_append.1 hx with hx | hx
          · exact h2 x hx
          · simp at hx; rw [hx]; exact h6
        · by_cases hlt : i < l.length
          · rw [List.getElem_append_left hlt]; exact h3 i hlt
          · have : i = k := by simp at hi'; omega
            subst this
            rw [List.getElem_append_right (by omega)]
            rw [hsz] at h4
            simpa using h4

    obtain ⟨l, h1, h2, h3⟩ := key len (Nat.le_refl _)
    refine ⟨(.slice (some a) len cap, l), ⟨⟨some a, cap, by rw [List.length_map, h1], fun i c hc => ?_⟩, h2, by rw [h1]; omega⟩, rfl⟩
    rw [List.getElem?_map] at hc
    cases hl : l[i]? with
    | none => rw [hl] at hc; cases hc
    | some x =>
      rw [hl] at hc
      simp only [Option.map_some, Option.some.injEq] at hc
      subst hc
      obtain ⟨hil, rfl⟩ := List.getElem?_eq_some_iff.1 hl
      obtain ⟨_, hlen, hcell⟩ := World.cells?_some (h3 i hil)
      have hsp : a.spot = none := by
        obtain ⟨_, hlen0, hcell0⟩ := World.cells?_some (h3 0 (by omega))
        have h4 := hcell0 0 h0
        rw [List.getElem?_eq_getElem (by omega)] at h4
        have := World.cell?_spot h4
        simpa [Addr.add] using this
      obtain ⟨b, o, sp⟩ := a
      subst hsp
      refine ⟨b, o, rfl, fun j u hj => ?_⟩
      have hjl : j < sz := by have := (List.getElem?_eq_some_iff.1 hj).1; omega
      have h5 := hcell j hjl
      rw [hj] at h5
      rw [← h5]
      congr 1
      unfold Addr.add
      split <;> split <;> simp_all
/-! An argument as a whole. -/
variable {v : Value} {d : DataW H} {ps : List MemPlace} {b0 : Nat} {rr : Reach}
theorem warg_struct {fs : Array Field} {α : Type} {e : α → List Value} {ok : α → Prop} (ht : P.underlying t = some (.struct fs)) (hv : Value.okWide P W rr b0 t v) (hd : DecW enc P W t e ok) (h : DataW.Trod enc P W 0 (fun _ => true) true t v d ps) (hb : wt P t d) : ∃ c, ok c ∧ v = .agg (e c).toArray := by
  obtain ⟨cs, rfl, _⟩ := okWide_struct ht hv
  obtain ⟨fuel, hf⟩ := h
  obtain ⟨c, hc, he⟩ := hd _ _ _ hf hb
  refine ⟨c, hc, ?_⟩
  rw [← he]; rfl
theorem warg_slice {et : TypeId} {α : Type} {ok : Value × List α → Prop} (ht : P.underlying t = some (.slice et)) (hv : Value.okWide P W rr b0 t v) (hd : DecW enc P W t (fun c : Value × List α => [c.1]) ok) (h : DataW.Trod enc P W 0 (fun _ => true) true t v d ps) (hb : wt P t d) : ∃ l, ok (v, l) := by
  obtain ⟨a, len, cap, rfl⟩ := okWide_slice ht hv
  obtain ⟨fuel, hf⟩ := h
  obtain ⟨⟨u, l⟩, hc, he⟩ := hd _ _ _ hf hb
  have : Value.slice a len cap = u := by simpa [Value.cells] using he
  subst this
  exact ⟨l, hc⟩
end
end Go.Proofs.YtddiecdoaggaaaaDoor
