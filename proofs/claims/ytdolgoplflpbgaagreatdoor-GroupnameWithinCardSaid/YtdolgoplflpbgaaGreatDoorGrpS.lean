/- The walk of groupname.Sort. -/
import Derived.Test.YtdolgoplflpbgaaGreatDoorGrpP
import Derived.Test.YtdolgoplflpbgaaGreatDoorWalkB
import Derived.Test.YtdolgoplflpbgaaGreatDoorShelfG
import Derived.Shelf.SlSortCmp.NoneTotal
import Derived.Lib.OwnBridge
namespace Go.Proofs.YtdolgoplflpbgaaGreatDoor
open Go.RowKit Go.Sort

/-! Plain: what compact leaves of a sorted row. -/
theorem compactUpTo_sorted {α : Type} [Inhabited α] [DecidableEq α] {lt : α → α → Prop} (tot : ∀ a b, ¬ lt a b → ¬ lt b a → a = b) (d : Array α) (h : ∀ i j, i < j → j < d.size → ¬ lt d[j]! d[i]!) :
    ∀ k, k ≤ d.size → (∀ x, x ∈ Lib.compactUpTo d k ↔ ∃ i, i < k ∧ d[i]! = x) ∧ (Lib.compactUpTo d k).Pairwise lt
  | 0, _ => ⟨fun x => by simp [Lib.compactUpTo], by simp [Lib.compactUpTo]⟩
  | k + 1, hk => by
    obtain ⟨h1, h2⟩ := compactUpTo_sorted tot d h k (by omega)
    rw [Lib.compactUpTo_succ]
    by_cases hkeep : Lib.keeps d k = true
    · rw [if_pos hkeep]
      refine ⟨fun x => ?_, ?_⟩
      · rw [List.mem_append, h1 x]
        constructor
        · rintro (⟨i, hi, e⟩ | hx)
          · exact ⟨i, by omega, e⟩
          · exact ⟨k, by omega, (List.mem_singleton.1 hx).symm⟩
        · rintro ⟨i, hi, e⟩
          by_cases hik : i = k
          · subst hik; exact .inr (by rw [e]; simp)
          · exact .inl ⟨i, by omega, e⟩
      · rw [List.pairwise_append]
        refine ⟨h2, by simp, fun x hx y hy => ?_⟩
        obtain ⟨i, hi, rfl⟩ := (h1 x).1 hx
        rw [List.mem_singleton.1 hy]
        by_cases hlt : lt d[i]! d[k]!
        · exact hlt
        exfalso
        have e1 := tot _ _ hlt (h i k hi (by omega))
        have hk0 : d[k]! ≠ d[k - 1]! := by
          have : k ≠ 0 := by omega
          simpa [Lib.keeps, this] using hkeep
        by_cases hik : i = k - 1
        · subst hik; exact hk0 e1.symm
        · refine hk0 (e1.symm.trans (tot _ _ ?_ (h i (k - 1) (by omega) (by omega))))
          rw [e1]; exact h (k - 1) k (by omega) (by omega)
    · rw [if_neg hkeep, List.append_nil]
      refine ⟨fun x => ?_, h2⟩
      have hk0 : k ≠ 0 ∧ d[k]! = d[k - 1]! := by
        simp only [Lib.keeps, decide_eq_true_eq, not_or, Decidable.not_not] at hkeep
        simpa using hkeep
      rw [h1 x]
      constructor
      · rintro ⟨i, hi, e⟩; exact ⟨i, by omega, e⟩
      · rintro ⟨i, hi, e⟩
        by_cases hik : i = k
        · subst hik; exact ⟨i - 1, by omega, by rw [← hk0.2, e]⟩
        · exact ⟨i, by omega, e⟩

/-! The order. -/
theorem neq_of {c : UInt8} {l : List UInt8} (h : ¬ c ∈ l) : ∀ x ∈ l, x ≠ c := fun x hx e => h (by rw [← e]; exact hx)
theorem split_ne {c : UInt8} (l : List UInt8) : Lib.split l [c] ≠ [] := by
  by_cases h : c ∈ l
  · obtain ⟨a, b, rfl, ha⟩ := List.eq_append_cons_of_mem h
    rw [split_c (neq_of ha)]; simp
  · rw [split_none (neq_of h)]; simp
theorem split_inj {c : UInt8} : ∀ {f : Nat} {l m : List UInt8}, l.length ≤ f → Lib.split l [c] = Lib.split m [c] → l = m := by
  intro f
  induction f with
  | zero =>
    intro l m hl h
    have : l = [] := List.eq_nil_of_length_eq_zero (by omega)
    subst this
    rw [split_none (by simp)] at h
    by_cases hm : c ∈ m
    · obtain ⟨a, b, rfl, ha⟩ := List.eq_append_cons_of_mem hm
      rw [split_c (neq_of ha)] at h
      injection h with h1 h2
      exact absurd h2.symm (split_ne b)
    · rw [split_none (neq_of hm)] at h
      injection h
  | succ f ih =>
    intro l m hl h
    by_cases h1 : c ∈ l
    · obtain ⟨a, b, rfl, ha⟩ := List.eq_append_cons_of_mem h1
      rw [split_c (neq_of ha)] at h
      by_cases hm : c ∈ m
      · obtain ⟨a', b', rfl, ha'⟩ := List.eq_append_cons_of_mem hm
        rw [split_c (neq_of ha')] at h
        injection h with h1 h2
        rw [h1, ih (by simp at hl; omega) h2]
      · rw [split_none (neq_of hm)] at h
        injection h with h1 h2
        exact absurd h2 (split_ne b)
    · rw [split_none (neq_of h1)] at h
      by_cases hm : c ∈ m
      · obtain ⟨a', b', rfl, ha'⟩ := List.eq_append_cons_of_mem hm
        rw [split_c (neq_of ha')] at h
        injection h with h1 h2
        exact absurd h2.symm (split_ne b')
      · rw [split_none (neq_of hm)] at h
        injection h
theorem compareG_zero {a b : ByteArray} : compareG a b = 0 ↔ a = b := by
  unfold compareG
  rw [cmpL_zero]
  constructor
  · intro h
    have h2 : (piecesB dotB a).map (·.data.toList) = (piecesB dotB b).map (·.data.toList) := by rw [h]
    rw [dotB, pieces_data, pieces_data] at h2
    have := split_inj (Nat.le_refl _) h2
    exact Go.WideShapes.bytes_inj this
  · rintro rfl; rfl
theorem compareG_swap (a b : ByteArray) : compareG b a = - compareG a b := cmpL_swap _ _
theorem compareG_trans {a b c : ByteArray} (h1 : compareG a b ≤ 0) (h2 : compareG b c ≤ 0) : compareG a c ≤ 0 := cmpL_trans h1 h2
/-- Strictly increasing. -/
def UpG (l : List ByteArray) : Prop := l.Pairwise fun a b => compareG a b < 0
abbrev StrX := { s : ByteArray // s.size < 4294967281 }
instance : Inhabited StrX := ⟨⟨ByteArray.empty, by decide⟩⟩
def encX (s : StrX) : Value := .string s.1
def cmpX (a b : StrX) : Int := compareG a.1 b.1
theorem ltX (x y : StrX) : ltOf cmpX x y = true ↔ compareG x.1 y.1 < 0 := by unfold ltOf cmpX; exact decide_eq_true_iff
theorem ltX_f (x y : StrX) : ltOf cmpX x y = false ↔ 0 ≤ compareG x.1 y.1 := by
  rw [← Bool.not_eq_true, ltX]; omega
theorem compareG_lt_trans {a b c : ByteArray} (h1 : compareG a b < 0) (h2 : compareG b c < 0) : compareG a c < 0 := by
  have h3 := compareG_trans (by omega : compareG a b ≤ 0) (by omega : compareG b c ≤ 0)
  by_cases h0 : compareG a c = 0
  · have := compareG_zero.1 h0
    subst this
    have := compareG_swap a b
    omega
  · omega
theorem cmpX_swo : SWO (ltOf cmpX) where
  irrefl x := by rw [ltX_f, compareG_zero.2 rfl]; omega
  trans x y z h1 h2 := by
    rw [ltX] at *
    exact compareG_lt_trans h1 h2
  ntrans x y z h1 h2 := by
    rw [ltX_f] at *
    have e1 := compareG_swap x.1 y.1
    have e2 := compareG_swap y.1 z.1
    have e3 := compareG_swap x.1 z.1
    have := compareG_trans (by omega : compareG z.1 y.1 ≤ 0) (by omega : compareG y.1 x.1 ≤ 0)
    omega
/-! The calls. -/
theorem cell_same {w w' : World} {a : Addr} (h : w'.heap[a.block]? = w.heap[a.block]?) : w'.cell? a = w.cell? a := by unfold World.cell?; rw [h]
theorem compare_lays {blk off size : Nat} {w : World} {m : Int} (hm : w.cell? ⟨0, 0, none⟩ = some (.int .i64 m)) (hb : blk < w.heap.size) (h0 : blk ≠ 0) : CmpLays1 Tryz.prog 32 #[] encX cmpX blk off size w := by
  intro k os dk hs x y
  refine (compare_exact x.1 y.1 m _ x.2 y.2 ?_).mono ?_
  · unfold sortWorld
    rw [cell?_grow _ _ _ (by simp [putRow, mapBlock, Sort.ahead]; omega), cell?_putRow_other _ _ _ _ _ _ (.inl (by simpa using h0.symm))]
    exact hm
  · rintro e w' ⟨he, o1, o2, hw⟩
    refine ⟨he, 0, #[o1, o2], ?_⟩
    rw [hw, alloc_eq_grow, alloc_eq_grow, grow_grow]
    rfl
/-- A row of the call's own is sorted. -/
theorem sort_row (v : Value) (l : List ByteArray) (m : Int) (r w : World) (hS : Sat r [row false v l.length (l.map Value.string) 9 1] w) (hl : ∀ s ∈ l, s.size < 4294967281) (hn : l.length < 4611686018427387904) (hm : r.cell? ⟨0, 0, none⟩ = some (.int .i64 m)) :
    Calls Tryz.prog 55 #[v, .func (.func 32) #[] #[]] w fun e w' => e = .returned (.tuple #[]) ∧ ∃ l' : List ByteArray, l'.Perm l ∧ l'.Pairwise (fun a b => compareG a b ≤ 0) ∧ Sat r [row false v l.length (l'.map Value.string) 9 1] w' := by
  have hm' : w.cell? ⟨0, 0, none⟩ = some (.int .i64 m) := cell_ext (hS.below rfl) hm
  have hrow := hS.row 0 rfl
  by_cases hv : v = .slice none 0 0
  · subst hv
    have hl0 : l = [] := by
      rcases hrow.2 with ⟨_, h0⟩ | ⟨g, cap, cur, he, _⟩
      · exact List.eq_nil_of_length_eq_zero h0
      · cases he
    subst hl0
    refine (AnyF.slices_SortFunc_none (P := Tryz.prog) (ρ := Tryz.sortF_ren) { Tryz.sortF with } none 0 _ w).mono ?_
    rintro e w' ⟨rfl, rfl⟩
    exact ⟨rfl, [], .nil, .nil, hS⟩
  obtain ⟨d, hd⟩ : ∃ d : List StrX, d.map (·.1) = l := ⟨l.attach.map fun x => ⟨x.1, hl x.1 x.2⟩, by simp⟩
  have hrow2 : w.ownsRow 0 9 1 v l.length (d.map encX) := by
    have : d.map encX = l.map Value.string := by rw [← hd, List.map_map]; rfl
    rw [this]; exact hrow
  have hfoot := (hS.all _ (List.mem_singleton.2 rfl)).2
  obtain ⟨g, cap, rfl, _, hg, hcap, hmax, hdl, hH⟩ := Lib.holds_of_ownsRow hrow2 hv
  have hgr : r.heap.size ≤ g := (hfoot g rfl).2 rfl
  have h0 : 0 < r.heap.size := by
    obtain ⟨c, e, fr, hb, _⟩ := cells_of_cell? hm
    exact (Array.getElem?_eq_some_iff.1 hb).1
  have hcall := Any.slices_SortFunc_total (P := Tryz.prog) Tryz.sortF encX (fun x => rfl) cmpX cmpX_swo 32 #[] g 0 cap d.toArray w (enters_of Tryz.func32 (by kernel_rfl) rfl) (compare_lays hm' hg (by omega)) hH hg (by simp; omega) (by
    intro x y h1 h2
    rw [ltX_f] at h1 h2
    have e1 := compareG_swap x.1 y.1
    exact Subtype.ext (compareG_zero.1 (by omega)))
  rw [List.size_toArray, hdl] at hcall
  refine hcall.mono ?_
  rintro e w' ⟨rfl, n, os, rfl⟩
  have hperm := d.mergeSort_perm (fun x y => !(ltOf cmpX) y x)
  have hlen : (d.mergeSort (fun x y => !(ltOf cmpX) y x)).length = l.length := by rw [hperm.length_eq, hdl]
  refine ⟨rfl, (d.mergeSort (fun x y => !(ltOf cmpX) y x)).map (·.1), ?_, ?_, ?_⟩
  · rw [← hd]; exact hperm.map _
  · rw [List.pairwise_map]
    have hp := List.pairwise_mergeSort (le := fun x y => !(ltOf cmpX) y x) (fun a b c h1 h2 => by
      simp only [Bool.not_eq_true'] at *
      exact cmpX_swo.ntrans c b a h2 h1) (fun a b => by
      simp only [Bool.or_eq_true, Bool.not_eq_true', ltX_f]
      have := compareG_swap a.1 b.1
      omega) d
    refine hp.imp fun {a b} h => ?_
    simp only [Bool.not_eq_true', ltX_f] at h
    have := compareG_swap a.1 b.1
    omega
  · have hown := Lib.ownsRow_putRow (q := n) hrow2 hlen (Nat.le_refl l.length)
    rw [List.take_of_length_le (by omega)] at hown
    have he : (d.mergeSort (fun x y => !(ltOf cmpX) y x)).map encX = ((d.mergeSort (fun x y => !(ltOf cmpX) y x)).map (·.1)).map Value.string := by rw [List.map_map]; rfl
    rw [he] at hown
    unfold sortWorld
    generalize (d.mergeSort (fun x y => !(ltOf cmpX) y x)) = dm at *
    have hS1 : Sat r [row false (.slice (some ⟨g, 0, none⟩) l.length cap) l.length ((dm.map (·.1)).map Value.string) 9 1] (putRow encX (Sort.ahead w n) g 0 dm.toArray) := by
      refine hS.upd (A := []) (C := []) rfl rfl rfl (by simp [putRow, mapBlock, Sort.ahead]) (fun k hk hne => ?_) hown (fun b hb => ⟨.inl hb, ?_⟩) rfl (fun h => by cases h)
      · have : g ≠ k := fun e => hne (by rw [← e]; rfl)
        simp [putRow, mapBlock, Sort.ahead, Array.getElem?_modify, this]
      · have : g = b := by injection (hb : some g = some b)
        subst this
        simpa [putRow, mapBlock, Sort.ahead] using hg
    exact hS1.ext ⟨rfl, rfl, rfl, by rw [size_grow]; omega, fun k hk => heap_grow_old _ _ hk⟩
/-- A row of the call's own that is sorted is compacted. -/
theorem compact_row (v : Value) (l : List ByteArray) (r w : World) (hS : Sat r [row false v l.length (l.map Value.string) 9 1] w) (hp : l.Pairwise (fun a b => compareG a b ≤ 0)) (hn : l.length ≤ 9223372036854775807) :
    Calls Tryz.prog 56 #[v] w fun e w' => ∃ s : Value × List ByteArray, e = .returned s.1 ∧ UpG s.2 ∧ ((∀ x, x ∈ s.2 ↔ x ∈ l) ∧ s.2.length ≤ l.length) ∧ Sat r [row false s.1 s.2.length (s.2.map Value.string) 9 1] w' := by
  have hrow := hS.row 0 rfl
  by_cases hv : v = .slice none 0 0
  · subst hv
    have hl0 : l = [] := by
      rcases hrow.2 with ⟨_, h0⟩ | ⟨g, cap, cur, he, _⟩
      · exact List.eq_nil_of_length_eq_zero h0
      · cases he
    subst hl0
    refine (Tryz.slices_Compact_string_empty none 0 w).mono ?_
    rintro e w' ⟨rfl, rfl⟩
    exact ⟨(.slice none 0 0, []), rfl, .nil, ⟨by simp, Nat.le_refl _⟩, hS⟩
  have hrow2 : w.ownsRow 0 9 1 v l.length ((l.map (·.data.toList)).map Go.Proofs.encStr) := by rw [Lib.map_encStr]; exact hrow
  obtain ⟨g, cap, rfl, _, hg, hcap, hmax, hdl, hH⟩ := Lib.holds_of_ownsRow hrow2 hv
  have hcall := Tryz.slices_Compact_string g 0 cap (l.map (·.data.toList)) w hH (by simpa using hn) (by simpa using hcap)
  rw [List.length_map] at hcall
  refine hcall.mono ?_
  rintro e w' ⟨rfl, q, rfl⟩
  have hcl := Lib.compact_length_le (l.map (·.data.toList))
  rw [List.length_map] at hcl
  have key := compactUpTo_sorted (lt := fun a b : List UInt8 => compareG ⟨a.toArray⟩ ⟨b.toArray⟩ < 0) (fun a b h1 h2 => by
    have := compareG_swap ⟨a.toArray⟩ ⟨b.toArray⟩
    have e1 := compareG_zero.1 (by omega : compareG ⟨a.toArray⟩ ⟨b.toArray⟩ = 0)
    injection e1 with e1
    injection e1) (l.map (·.data.toList)).toArray (fun i j hij hj => by
    simp only [List.size_toArray, List.length_map] at hj
    have h1 := List.pairwise_iff_getElem.1 hp i j (by omega) hj hij
    have h2 := compareG_swap l[i] l[j]
    have ei : ((l.map (·.data.toList)).toArray[i]! : List UInt8) = l[i].data.toList := by simp [getElem!_pos, show i < l.length by omega]
    have ej : ((l.map (·.data.toList)).toArray[j]! : List UInt8) = l[j].data.toList := by simp [getElem!_pos, hj]
    rw [ei, ej]
    show ¬ compareG l[j] l[i] < 0
    omega) l.length (by simp)
  have hco : Lib.compact (l.map (·.data.toList)) = Lib.compactUpTo (l.map (·.data.toList)).toArray l.length := by unfold Lib.compact; rw [List.length_map]
  rw [hco] at hcl ⊢
  have hmem : ∀ x : ByteArray, x ∈ (Lib.compactUpTo (l.map (·.data.toList)).toArray l.length).map (fun c => (⟨c.toArray⟩ : ByteArray)) ↔ x ∈ l := by
    intro x
    rw [List.mem_map]
    constructor
    · rintro ⟨c, hc, rfl⟩
      obtain ⟨i, hi, e⟩ := (key.1 c).1 hc
      rw [show ((l.map (·.data.toList)).toArray[i]! : List UInt8) = l[i].data.toList by simp [getElem!_pos, hi]] at e
      rw [← e]
      exact List.getElem_mem hi
    · intro hx
      obtain ⟨i, hi, e⟩ := List.mem_iff_getElem.1 hx
      refine ⟨x.data.toList, (key.1 _).2 ⟨i, hi, ?_⟩, rfl⟩
      rw [show ((l.map (·.data.toList)).toArray[i]! : List UInt8) = l[i].data.toList by simp [getElem!_pos, hi], e]
  refine ⟨(.slice (some ⟨g, 0, none⟩) (Lib.compactUpTo (l.map (·.data.toList)).toArray l.length).length cap, (Lib.compactUpTo (l.map (·.data.toList)).toArray l.length).map (fun c => (⟨c.toArray⟩ : ByteArray))), rfl, ?_, ⟨hmem, by rw [List.length_map]; exact hcl⟩, ?_⟩
  · unfold UpG; rw [List.pairwise_map]; exact key.2
  · have hown := Lib.ownsRow_putRow (q := q) (ys := Lib.compactUpTo (l.map (·.data.toList)).toArray l.length ++ List.replicate (l.length - (Lib.compactUpTo (l.map (·.data.toList)).toArray l.length).length) []) hrow2 (by simp; omega) hcl
    rw [List.take_left] at hown
    have he : (Lib.compactUpTo (l.map (·.data.toList)).toArray l.length).map Go.Proofs.encStr = ((Lib.compactUpTo (l.map (·.data.toList)).toArray l.length).map (fun c => (⟨c.toArray⟩ : ByteArray))).map Value.string := by rw [List.map_map]; rfl
    rw [he] at hown
    show Sat r [row false (.slice (some ⟨g, 0, none⟩) _ cap) (List.map _ _).length _ 9 1] _
    rw [List.length_map]
    refine hS.upd (A := []) (C := []) rfl rfl rfl (by simp [putRow, mapBlock, Sort.ahead]) (fun k hk hne => ?_) hown (fun b hb => ⟨.inl hb, ?_⟩) rfl (fun h => by cases h)
    · have : g ≠ k := fun e => hne (by rw [← e]; rfl)
      simp [putRow, mapBlock, Sort.ahead, Array.getElem?_modify, this]
    · have : g = b := by injection (hb : some g = some b)
      subst this
      simpa [putRow, mapBlock, Sort.ahead] using hg
theorem clone_any (v : Value) (l : List ByteArray) (w : World) (h : StrsAt w v l) (hn : l.length ≤ 2000000) : Calls Tryz.prog 54 #[v] w fun e w' => ∃ v', e = .returned v' ∧ w'.ownsRow w.heap.size 9 1 v' l.length (l.map Value.string) ∧ Below w.heap.size w w' := by
  obtain ⟨ea, cap, rfl, hl, hc⟩ := h
  cases hcase : l with
  | nil =>
    subst hcase
    cases ea with
    | none => exact (Tryz.slices_Clone_string_nil 0 cap w).mono fun e w' ⟨h1, h2⟩ => ⟨_, h1, h2 ▸ own_none _ _ _ _, h2 ▸ Below.refl _ _⟩
    | some a => exact (Tryz.slices_Clone_string_zero a cap w).mono fun e w' ⟨v', h1, h2, _, h3⟩ => ⟨v', h1, h2, h3⟩
  | cons y l' =>
    rw [← hcase]
    have hpos : 0 < l.length := by rw [hcase]; simp
    obtain ⟨b, o, rfl, _⟩ := hc 0 l[0] (by simp [hpos])
    refine (Tryz.slices_Clone_string b o l.length cap l w (Nat.le_refl _) (by omega) (fun j hj => ?_)).mono fun e w' ⟨v', h1, h2, _, h3⟩ => ⟨v', h1, ?_, h3⟩
    · obtain ⟨b', o', he, h2⟩ := hc j l[j] (by simp [hj])
      cases he
      rw [h2]; simp [List.getD, hj]
    · rw [List.take_length] at h2; exact h2
/-- The first error of a list of names. -/
def errG : List ByteArray → Nat
  | [] => 0
  | s :: l => if checkG s = 0 then errG l else checkG s
def sortErr (l : List ByteArray) : Nat := if 4096 < l.length then 9 else errG l
/-- What Sort returns. -/
def SortOf (l m : List ByteArray) : Prop := if sortErr l = 0 then UpG m ∧ (∀ x, x ∈ m ↔ x ∈ l) ∧ m.length ≤ l.length else m = []
theorem errG_zero {l : List ByteArray} : errG l = 0 ↔ ∀ s ∈ l, checkG s = 0 := by
  induction l with
  | nil => simp [errG]
  | cons s l ih =>
    unfold errG
    split
    · rename_i h; simp [ih, h]
    · rename_i h; simp [h]
theorem checkG_size {s : ByteArray} (h : checkG s = 0) : s.size ≤ 80 := by
  unfold checkG at h
  split at h
  · cases h
  · omega
theorem sat_nil {r w : World} {O : List Own} (h : Sat r O w) : Sat r (row false (.slice none 0 0) 0 [] 9 1 :: O) w :=
  h.add (Below.refl _ _) ⟨rfl, .inl ⟨rfl, rfl⟩⟩ (fun b hb => by cases hb) rfl
set_option maxRecDepth 100000
attribute [local irreducible] errG checkG UpG
attribute [local irreducible] K KS KLeft KRound J OV EV EU Blk wpList Code.wp bodyPost Exit.then Exit.inBlock Round Left Hid JS wpStill wpHeld Calls
theorem sort_any (v : Value) (l : List ByteArray) (m : Int) (r : World) (hv : StrsAt r v l) (hl : ∀ s ∈ l, s.size ≤ 9223372036854775807) (hn : l.length ≤ 9223372036854775807) (hm : r.cell? ⟨0, 0, none⟩ = some (.int .i64 m)) :
    Calls Tryz.prog 35 #[v] r fun e w' => ∃ s : Value × List ByteArray, e = .returned (.tuple #[s.1, .int .i64 (sortErr l : Nat)]) ∧ SortOf l s.2 ∧ Sat r [row false s.1 s.2.length (s.2.map Value.string) 9 1] w' := by
  have hv0 := hv
  obtain ⟨ea, ca, rfl, _, hca⟩ := hv
  refine k_enter (N := 29) Tryz.func35 rfl rfl rfl ?_
  have hN : sortErr l ≠ 0 → SortOf l [] := fun h => by unfold SortOf; rw [if_neg h]
  have hY : sortErr l = 0 → ∀ m, UpG m → (∀ x, x ∈ m ↔ x ∈ l) → m.length ≤ l.length → SortOf l m := fun h m h1 h2 h3 => by unfold SortOf; rw [if_pos h]; exact ⟨h1, h2, h3⟩
  by_cases h4 : 4096 < l.length
  · have he : sortErr l = 9 := by unfold sortErr; rw [if_pos h4]
    rw [he] at hN ⊢
    refine walkB ?_
    exact k_ret2 rfl rfl rfl fun w hw => ⟨(.slice none 0 0, []), rfl, hN (by omega), sat_nil hw⟩
  have he : sortErr l = errG l := by unfold sortErr; rw [if_neg h4]
  rw [he] at hN hY ⊢
  refine walkB ?_
  refine k_loop (σ := Nat) (fun k => [(0, .slice ea l.length ca), (11, .slice ea l.length ca), (12, .int .i64 l.length), (13, .int .i64 k)]) (fun _ => []) (fun k => k ≤ l.length ∧ errG (l.drop k) = errG l ∧ ∀ s ∈ l.take k, checkG s = 0) (fun k => l.length - k) 0 (by repeat (first | exact Sub.nil | refine Sub.cons rfl ?_)) (by repeat (first | exact SubO.nil | refine SubO.keep ?_ | refine SubO.drop rfl ?_)) ⟨Nat.zero_le _, rfl, by simp⟩ ?_
  rintro k ⟨hk, hC, hT⟩
  by_cases hlt : k < l.length
  · obtain ⟨b, o, rfl, hcell⟩ := hca k l[k] (by simp [hlt])
    have hs := hl l[k] (List.getElem_mem hlt)
    rw [List.drop_eq_getElem_cons hlt, errG] at hC
    have hT2 : checkG l[k] = 0 → ∀ s ∈ l.take (k + 1), checkG s = 0 := by
      intro h0 s hs
      rw [List.take_succ_eq_append_getElem hlt, List.mem_append] at hs
      rcases hs with hs | hs
      · exact hT s hs
      · rw [List.mem_singleton.1 hs]; exact h0
    generalize l[k] = x at hcell hs hC hT2
    refine walkB ?_
    refine k_callb (v := .int .i64 (checkG x)) (by kernel_rfl) rfl rfl (fun w hw => checkG_any x m w hs (cell_ext (hw.below rfl) hm)) ?_
    by_cases h0 : checkG x = 0
    · rw [if_pos h0] at hC
      rw [h0]
      refine walkB ?_
      refine k_round (k + 1) (by repeat (first | exact Sub.nil | refine Sub.cons rfl ?_)) (by repeat (first | exact SubO.nil | refine SubO.keep ?_ | refine SubO.drop rfl ?_)) ⟨by omega, hC, hT2 h0⟩ (by omega)
    · rw [if_neg h0] at hC
      rw [← hC] at hN ⊢
      refine walkB ?_
      exact k_ret2 rfl rfl rfl fun w hw => ⟨(.slice none 0 0, []), rfl, hN h0, sat_nil hw⟩
  have hkl : k = l.length := by omega
  subst hkl
  rw [List.take_length] at hT
  rw [List.drop_length, errG] at hC
  have hY' := hY hC.symm
  rw [← hC]
  clear hC hY hN he
  refine walkB ?_
  refine k_callr (by kernel_rfl) rfl rfl (fun w hw => clone_any _ l w (hv0.ext (hw.below rfl)) (by omega)) ?_
  intro v'
  refine walkB ?_
  refine k_call (by kernel_rfl) rfl rfl (fun w hw => sort_row v' l m r w hw (fun s hs => by have := checkG_size (hT s hs); omega) (by omega) hm) ?_
  rintro w e w' _ ⟨rfl, l', hp, hpw, hw'⟩
  refine ⟨_, rfl, j_of_k hw' ?_⟩
  rw [← hp.length_eq]
  refine walkB ?_
  refine k_call (by kernel_rfl) rfl rfl (fun w hw => compact_row v' l' r w hw hpw (by have := hp.length_eq; omega)) ?_
  rintro w e w' _ ⟨⟨v2, l2⟩, rfl, h1, ⟨h2, h2l⟩, hw'⟩
  refine ⟨_, rfl, j_of_k hw' ?_⟩
  have h3 := hY' l2 h1 (fun x => (h2 x).trans hp.mem_iff) (by rw [← hp.length_eq]; exact h2l)
  refine walkB ?_
  exact k_ret2 rfl rfl rfl fun w hw => ⟨(v2, l2), rfl, h3, hw⟩
end Go.Proofs.YtdolgoplflpbgaaGreatDoor
