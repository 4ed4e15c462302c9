/- slices.SortFunc over rows of structs, and over rows of one cell, under comparisons that are known by contracts of my form. No program. -/
import Derived.Test.YtddiecdoaggaaaaDoorRet
import Derived.Test.YtddiecdoaggaaaaDoorDrawn
import Derived.Shelf.SlSortCmp.NoneTotal
import Derived.Lib.OwnBridge
namespace Go.Proofs.YtddiecdoaggaaaaDoor
open Go Go.RowKit Go.Sort Go.Shelf

/-! Rows of structs, cell by cell. -/
theorem get_flat {α : Type} {enc : α → List Value} {k : Nat} (hk0 : 0 < k) (hk : ∀ x, (enc x).length = k) : ∀ (d : List α) (t : Nat), t < d.length * k → (d.flatMap enc)[t]? = (d[t / k]?).bind fun x => (enc x)[t % k]?
  | [], t, h => by simp at h
  | x :: d, t, h => by
    rw [List.flatMap_cons]
    by_cases ht : t < k
    · rw [List.getElem?_append_left (by rw [hk]; exact ht), Nat.div_eq_of_lt ht, Nat.mod_eq_of_lt ht]; rfl
    · have h1 : t / k = (t - k) / k + 1 := Nat.div_eq_sub_div hk0 (by omega)
      have h2 : t % k = (t - k) % k := Nat.mod_eq_sub_mod (by omega)
      rw [List.getElem?_append_right (by rw [hk]; omega), hk, get_flat hk0 hk d (t - k) (by rw [List.length_cons, Nat.add_mul] at h; omega), h1, h2]
      rfl
theorem len_flat {α : Type} {enc : α → List Value} {k : Nat} (hk : ∀ x, (enc x).length = k) : ∀ d : List α, (d.flatMap enc).length = d.length * k
  | [] => by simp
  | x :: d => by rw [List.flatMap_cons, List.length_append, hk, len_flat hk d, List.length_cons, Nat.add_mul]; omega
/-- Cell j of element i. -/
theorem flat_at {α : Type} {enc : α → List Value} {k : Nat} (hk : ∀ x, (enc x).length = k) {d : List α} {i j : Nat} {x : α} (hi : d[i]? = some x) (hj : j < k) : (d.flatMap enc)[i * k + j]? = (enc x)[j]? := by
  have hlt : i < d.length := (List.getElem?_eq_some_iff.1 hi).1
  have h1 : (i + 1) * k ≤ d.length * k := Nat.mul_le_mul hlt (Nat.le_refl _)
  rw [Nat.add_mul] at h1
  rw [get_flat (by omega) hk d _ (by omega)]
  have h2 : (i * k + j) / k = i := by rw [Nat.mul_comm, Nat.mul_add_div (by omega), Nat.div_eq_of_lt hj]; omega
  have h3 : (i * k + j) % k = j := by rw [Nat.mul_comm, Nat.mul_add_mod, Nat.mod_eq_of_lt hj]
  rw [h2, h3, hi]; rfl
theorem flatK_eq {α : Type} [Inhabited α] {enc : α → List Value} {k : Nat} (hk0 : 0 < k) (hk : ∀ x, (enc x).length = k) (d : List α) : (flatK enc k d.toArray).toList = d.flatMap enc := by
  apply List.ext_getElem?
  intro t
  by_cases ht : t < d.length * k
  · have h1 := get_flatK enc k d.toArray t (by simpa using ht)
    have h2 : t < (flatK enc k d.toArray).size := by simpa using ht
    have hd : t / k < d.length := (Nat.div_lt_iff_lt_mul hk0).2 ht
    have hm : t % k < k := Nat.mod_lt _ hk0
    rw [Array.getElem?_toList, Array.getElem?_eq_getElem h2, get_flat hk0 hk d t ht, List.getElem?_eq_getElem hd]
    rw [getElem!_pos _ t h2] at h1
    rw [h1]
    rw [getElem!_pos d.toArray (t / k) (by simpa using hd)]
    show some ((enc d[t / k])[t % k]!) = (enc d[t / k])[t % k]?
    rw [getElem!_pos _ _ (by rw [hk]; exact hm), List.getElem?_eq_getElem (by rw [hk]; exact hm)]
  · rw [List.getElem?_eq_none (by simp; omega), List.getElem?_eq_none (by rw [len_flat hk]; omega)]
theorem holdsK_of_row {α : Type} [Inhabited α] {enc : α → List Value} {k : Nat} (hk0 : 0 < k) (hk : ∀ x, (enc x).length = k) {w : World} {base : Nat} {e : TypeId} {v : Value} {n : Nat} {d : List α} (h : w.ownsRow base e k v n (d.flatMap enc)) (hv : v ≠ .slice none 0 0) :
    ∃ g cap, v = .slice (some ⟨g, 0, none⟩) n cap ∧ base ≤ g ∧ g < w.heap.size ∧ n ≤ cap ∧ cap ≤ maxLen ∧ d.length = n ∧ HoldsK enc k w g 0 d.toArray := by
  have hl : d.length = n := by
    have := h.1
    rw [len_flat hk] at this
    exact Nat.eq_of_mul_eq_mul_right hk0 this
  rcases h.2 with ⟨e0, _⟩ | ⟨g, cap, cur, rfl, hb, hg, hn, hm, hs, ht⟩
  · exact absurd e0 hv
  · have hlt : g < w.heap.size := (Array.getElem?_eq_some_iff.1 hg).1
    refine ⟨g, cap, rfl, hb, hlt, hn, hm, hl, fun j hj => ?_⟩
    have hj0 : j < (flatK enc k d.toArray).size := hj
    have hj' : j < n * k := by rw [size_flatK, List.size_toArray, hl] at hj0; exact hj0
    refine ⟨?_, by simp [World.frozen?, hg]⟩
    have e1 : (cur.toList.take (n * k))[j]? = (flatK enc k d.toArray).toList[j]? := by rw [ht, flatK_eq hk0 hk]
    rw [List.getElem?_take, if_pos hj', Array.getElem?_toList, Array.getElem?_toList, Array.getElem?_eq_getElem hj0] at e1
    simp only [World.cell?, hg, Nat.zero_add]
    rw [getElem!_pos _ j hj0]
    simpa using e1
theorem ownsRow_putRowK {α : Type} [Inhabited α] {enc : α → List Value} {k : Nat} (hk0 : 0 < k) (hk : ∀ x, (enc x).length = k) {w : World} {base : Nat} {e : TypeId} {g n cap q : Nat} {d ys : List α} (h : w.ownsRow base e k (.slice (some ⟨g, 0, none⟩) n cap) n (d.flatMap enc)) (hy : ys.length = n) :
    (putRowK enc k (Sort.ahead w q) g 0 ys.toArray).ownsRow base e k (.slice (some ⟨g, 0, none⟩) n cap) n (ys.flatMap enc) := by
  rcases h.2 with ⟨e0, _⟩ | ⟨g', cap', cur, e0, hb, hg, hn, hm, hs, ht⟩
  · cases e0
  · injection e0 with e1 _ e3
    injection e1 with e1
    injection e1 with e1
    subst e1; subst e3
    have hnk : n * k ≤ cap * k := Nat.mul_le_mul hn (Nat.le_refl _)
    refine ⟨by rw [len_flat hk, hy], .inr ⟨g, cap, putCells id 0 (flatK enc k ys.toArray) cur, rfl, hb, ?_, hn, hm, by simpa [putCells] using hs, ?_⟩⟩
    · simp [putRowK, putRow, mapBlock, Sort.ahead, Array.getElem?_modify, hg, onCells]
    · rw [← flatK_eq hk0 hk]
      apply List.ext_getElem?
      intro j
      rw [List.getElem?_take, Array.getElem?_toList, Array.getElem?_toList]
      by_cases hj : j < n * k
      · have hjc : j < cur.size := by omega
        have hjf : j < (flatK enc k ys.toArray).size := by simp [hy]; exact hj
        simp only [if_pos hj, putCells, Array.getElem?_mapIdx, Array.getElem?_eq_getElem hjc, Option.map_some]
        rw [if_pos (by constructor <;> omega), Array.getElem?_eq_getElem hjf]
        show some (id (flatK enc k ys.toArray)[j - 0]!) = _
        rw [Nat.sub_zero, getElem!_pos _ j hjf]; rfl
      · rw [if_neg hj, Array.getElem?_eq_none (by simp [hy]; omega)]
/-! The comparison. -/
theorem cmpLays_of {P : Program} {α : Type} [Inhabited α] {g : Nat} {cb : Array Value} {enc : α → List Value} {k : Nat} {cf : α → α → Int} {blk off size : Nat} {w : World}
    (h : ∀ (m : Nat) (os : Array Obj) (dk : Array α), ∀ x y : α, Calls P g (#[.agg (enc x).toArray, .agg (enc y).toArray] ++ cb) (sortWorldK enc k w blk off m dk os) fun e w' => e = .returned (.int .i64 (cf x y)) ∧ Below (sortWorldK enc k w blk off m dk os).heap.size (sortWorldK enc k w blk off m dk os) w') : CmpLays P g cb enc k cf blk off size w := by
  intro m os dk _ x y
  refine (calls_drawn (h m os dk x y)).mono ?_
  rintro e w' ⟨⟨he, hb⟩, hd⟩
  exact ⟨he, grown_of_below hb (hd _ he)⟩
theorem sortWorldK_below {α : Type} [Inhabited α] {enc : α → List Value} {k : Nat} {w : World} {B blk m : Nat} {dk : Array α} {os : Array Obj} (hB : B ≤ w.heap.size) (hg : B ≤ blk) : Below B w (sortWorldK enc k w blk 0 m dk os) := by
  unfold sortWorldK
  have h1 : Below B w (putRowK enc k (Sort.ahead w m) blk 0 dk) := Lib.below_putRow (Below.refl B w) hg
  refine ⟨h1.os, h1.tape, h1.output, ?_, fun j hj => ?_⟩
  · rw [size_grow]; exact Nat.le_trans h1.size (Nat.le_add_right _ _)
  · rw [heap_grow_old _ _ (by have := h1.size; omega)]; exact h1.block j hj
section
variable {P : Program} {ρ : Ren} {α : Type} [Inhabited α]
/-- A row of structs of the call's own is sorted. -/
theorem sort_rowK (L : SlLaysF0.n6 P ρ) (k : Nat) (hk0 : 0 < k) (aE : ∀ w, (isAgg (ρ.t 24)).run P w = .ok true w) (zE : ∀ w, (Go.sizeOf (ρ.t 24)).run P w = .ok k w) (enc : α → List Value) (hk : ∀ x, (enc x).length = k) (h1 : ∀ x, ∀ v ∈ enc x, v.oneCell' = true) (cf : α → α → Int) (hO : SWO (ltOf cf))
    (hT : ∀ x y, (ltOf cf) x y = false → (ltOf cf) y x = false → x = y) (g : Nat) (cb : Array Value) (eg : ∀ args w, (callFunc g args).run P w = .ok (.enter g args) w)
    {r w : World} {A C : List Own} {v : Value} {d : List α} {e : TypeId} (hS : Sat r (A ++ row false v d.length (d.flatMap enc) e k :: C) w) (hn : noOld (A ++ row false v d.length (d.flatMap enc) e k :: C) = true) (hlen : d.length < 4611686018427387904)
    (hc : ∀ W, Below r.heap.size r W → ∀ x y, Calls P g (#[.agg (enc x).toArray, .agg (enc y).toArray] ++ cb) W fun e w' => e = .returned (.int .i64 (cf x y)) ∧ Below W.heap.size W w') :
    Calls P (ρ.f 6) #[v, .func (.func g) #[] cb] w fun e' w' => e' = .returned (.tuple #[]) ∧ Sat r (A ++ row false v d.length ((d.mergeSort fun x y => !(ltOf cf) y x).flatMap enc) e k :: C) w' := by
  have hmem : row false v d.length (d.flatMap enc) e k ∈ A ++ row false v d.length (d.flatMap enc) e k :: C := by simp
  have hrow : w.ownsRow 0 e k v d.length (d.flatMap enc) := (hS.all _ hmem).1
  have hperm := d.mergeSort_perm (fun x y => !(ltOf cf) y x)
  by_cases hv : v = .slice none 0 0
  · subst hv
    have hl0 : d = [] := by
      rcases hrow.2 with ⟨_, h0⟩ | ⟨g, cap, cur, he, _⟩
      · exact List.eq_nil_of_length_eq_zero h0
      · cases he
    subst hl0
    refine (AnyF.slices_SortFunc_none L none 0 _ w).mono ?_
    rintro e' w' ⟨rfl, rfl⟩
    exact ⟨rfl, by simpa using hS⟩
  have hfoot := (hS.all _ hmem).2
  obtain ⟨gb, cap, rfl, _, hg, hcap, hmax, hdl, hH⟩ := holdsK_of_row hk0 hk hrow hv
  have hgr : r.heap.size ≤ gb := (hfoot gb rfl).2 rfl
  have hbr := hS.below hn
  have hcmp : CmpLays P g cb enc k cf gb 0 d.toArray.size w := cmpLays_of fun m os dk x y =>
    hc _ (hbr.trans (sortWorldK_below hbr.size hgr)) x y
  have hcall := AnyQ.slices_SortFunc_total L k aE zE enc hk h1 cf hO g cb gb 0 cap d.toArray w eg hcmp hH hg (by simpa using hlen) hT
  rw [List.size_toArray, show d.toArray.toList = d from rfl] at hcall
  refine hcall.mono ?_
  rintro e' w' ⟨rfl, n, os, rfl⟩
  refine ⟨rfl, ?_⟩
  have hown := ownsRow_putRowK (q := n) (ys := d.mergeSort fun x y => !(ltOf cf) y x) hk0 hk hrow hperm.length_eq
  unfold sortWorldK
  have hS1 : Sat r (A ++ row false (.slice (some ⟨gb, 0, none⟩) d.length cap) d.length ((d.mergeSort fun x y => !(ltOf cf) y x).flatMap enc) e k :: C) (putRowK enc k (Sort.ahead w n) gb 0 (d.mergeSort fun x y => !(ltOf cf) y x).toArray) := by
    refine hS.upd rfl rfl rfl (by simp [putRowK, putRow, mapBlock, Sort.ahead]) (fun j hj hne => ?_) hown (fun b hb => ⟨.inl hb, ?_⟩) rfl (fun h => by cases h)
    · have : gb ≠ j := fun e => hne (by rw [← e]; rfl)
      simp [putRowK, putRow, mapBlock, Sort.ahead, Array.getElem?_modify, this]
    · have : gb = b := by injection (hb : some gb = some b)
      subst this
      simpa [putRowK, putRow, mapBlock, Sort.ahead] using hg
  exact hS1.ext ⟨rfl, rfl, rfl, by rw [size_grow]; omega, fun j hj => heap_grow_old _ _ hj⟩
end
end Go.Proofs.YtddiecdoaggaaaaDoor
