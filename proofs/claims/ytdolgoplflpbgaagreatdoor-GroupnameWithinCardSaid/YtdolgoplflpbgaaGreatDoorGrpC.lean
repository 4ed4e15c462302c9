/- The walk of groupname.Children. -/
import Derived.Test.YtdolgoplflpbgaaGreatDoorGrpS
import Derived.Test.YtdolgoplflpbgaaGreatDoorMap
import Derived.Test.YtdolgoplflpbgaaGreatDoorGrpR
namespace Go.Proofs.YtdolgoplflpbgaaGreatDoor
open Go.RowKit Go.Sort

def encBool (b : Bool) : Value := .bool b
theorem bytesLess_lt (x y : List UInt8) : Op.bytesLess x y = true ↔ x < y := by rw [bytesLess_eq]; exact decide_eq_true_iff
/-- The datum of a map of strings. -/
theorem owns_of_map {P : Program} {k e : TypeId} (hk : P.underlying k = some .string) (he : P.underlying e = some .bool) {w : World} {b : Nat} {l : List (ByteArray × Bool)} (h : MapB encStr (fun s => s.size ≤ maxLen) encBool w b l) (hl : l.length ≤ maxLen) :
    ∃ D : DataW Unit, w.ownsMap P k (plainElem P e) b l.length D ∧ Maps.size D = l.length ∧ (strKeys D).Perm (l.map fun p => p.1.data.toList) := by
  obtain ⟨es, clock, hb, hmap, hok, hn, hst⟩ := h
  have hes : es.size = l.length := by
    have := congrArg List.length hmap
    simpa using this
  have hrg : ∀ x ∈ es.toList, ∃ p ∈ l, WideElems.rd P k (plainElem (H := Unit) P e) x = some (.string p.1.data.toList, .lit (.bool p.2)) ∧ x.key = encStr p.1 := by
    intro x hx
    have : (x.key, x.val) ∈ es.toList.map (fun x => (x.key, x.val)) := List.mem_map.2 ⟨x, hx, rfl⟩
    rw [hmap] at this
    obtain ⟨p, hp, ee⟩ := List.mem_map.1 this
    simp only [Prod.mk.injEq] at ee
    refine ⟨p, hp, ?_, ee.1.symm⟩
    unfold WideElems.rd
    rw [← ee.1, ← ee.2, encStr, encBool, plainElem_bool he]
    simp [keyOf, hk, mapKey, hok p hp]
  refine ⟨.map ((es.toList.map (WideElems.rg P k (plainElem P e))).foldr DataW.insert []), ⟨es, clock, hb, ⟨by omega, hst, fun x hx => ?_⟩, by omega, rfl⟩, ?_, ?_⟩
  · obtain ⟨p, _, h1, _⟩ := hrg x hx
    exact ⟨_, h1⟩
  · show (List.foldr DataW.insert [] _).length = _
    rw [length_sorted]; simp [hes]
  · show (List.map _ (List.foldr DataW.insert [] _)).Perm _
    refine ((WideShapes.sorted_perm _).map _).trans ?_
    rw [List.map_map]
    refine List.Perm.of_eq ?_
    have h2 : es.toList.map (fun x => x.key) = l.map (fun p => encStr p.1) := by
      have := congrArg (List.map Prod.fst) hmap
      rw [List.map_map, List.map_map] at this
      exact this
    have h3 : (es.toList.map ((fun p : Lit × DataW Unit => strOf p.1) ∘ WideElems.rg P k (plainElem P e))).map Go.Proofs.encStr = (l.map fun p => p.1.data.toList).map Go.Proofs.encStr := by
      rw [List.map_map, List.map_map]
      have : (l.map (Go.Proofs.encStr ∘ fun p : ByteArray × Bool => p.1.data.toList)) = l.map (fun p => encStr p.1) := rfl
      rw [this, ← h2]
      refine List.map_congr_left fun x hx => ?_
      obtain ⟨p, _, h1, h4⟩ := hrg x hx
      simp only [Function.comp, WideElems.rg, h1, Option.getD_some, strOf, h4]
      rfl
    exact List.map_inj_right (fun x y => encStr_inj) |>.1 h3
/-- slices.Sort at strings, as slices.Sorted wants it. -/
theorem sortsA (m : Nat) : AnyZ.SortsIn Tryz.prog Tryz.sortedA_ren Fence.wide m :=
  ⟨fun blk off cap ss W hH hblk hsz => callsIn_wide.2 (AnyM.slices_Sort_string Tryz.sortA blk off cap ss W hH hblk hsz),
   fun p cap W => callsIn_wide.2 (AnyM.slices_Sort_string_none Tryz.sortA p cap W)⟩
theorem keys_call (mb : Nat) (w : World) : Calls Tryz.prog 41 #[.map (some mb)] w fun e w' => ∃ b, e = .returned (.func (.func 62) #[] #[.pointer (some ⟨b, 0, none⟩)]) ∧ True ∧ Sat w [bk false b [.map (some mb)] 62] w' := by
  refine (callsIn_wide.1 (AnyZ.keys_in Tryz.keysA Fence.wide 5 trivial rfl (some mb) w)).mono ?_
  rintro e w' ⟨rfl, rfl⟩
  refine ⟨w.heap.size, rfl, trivial, (Sat.refl w).add ((Below.refl _ _).alloc (Nat.le_refl _) _) ?_ (fun b hb => by cases (hb : b = _); exact ⟨Nat.le_refl _, by simp⟩) rfl⟩
  show (w.heap.push _)[w.heap.size]? = _
  simp; rfl
theorem pairwise_less {ss : List (List UInt8)} (hnd : ss.Nodup) : ((ss.mergeSort (fun x y => decide (x ≤ y))).map fun c => (⟨c.toArray⟩ : ByteArray)).Pairwise lessS := by
  rw [List.pairwise_map]
  have h1 := List.pairwise_mergeSort (le := fun x y : List UInt8 => decide (x ≤ y)) (fun a b c h1 h2 => by simp only [decide_eq_true_eq] at *; exact List.le_trans h1 h2) (fun a b => by simp only [Bool.or_eq_true, decide_eq_true_eq]; exact List.le_total a b) ss
  have h2 : (ss.mergeSort (fun x y => decide (x ≤ y))).Nodup := (List.mergeSort_perm ss _).nodup_iff.2 hnd
  refine (h1.and h2).imp fun {a b} h => ?_
  have h3 : a ≤ b := by simpa using h.1
  unfold lessS
  rw [ByteArray.toList_eq, ByteArray.toList_eq, bytesLess_lt]
  rcases Classical.em (a < b) with h4 | h4
  · exact h4
  · exact absurd (List.le_antisymm h3 (List.not_lt.1 h4)) h.2
theorem sorted_call (B mb : Nat) (l : List (ByteArray × Bool)) (w : World) (hB : Blk w B [.map (some mb)] 62) (hm : MapB encStr (fun s => s.size ≤ maxLen) encBool w mb l) (hl : l.length * 16 ≤ 140737488355328) :
    Calls Tryz.prog 40 #[.func (.func 62) #[] #[.pointer (some ⟨B, 0, none⟩)]] w fun e w' => ∃ s : Value × List ByteArray, e = .returned s.1 ∧ (s.2.Pairwise lessS ∧ ∀ x, x ∈ s.2 ↔ x ∈ l.map (·.1)) ∧ Sat w [row false s.1 s.2.length (s.2.map Value.string) 9 1] w' := by
  have hmax : l.length ≤ maxLen := by unfold maxLen; omega
  obtain ⟨D, hown, hD, hP⟩ := owns_of_map (k := 9) (e := 4) Tryz.underlying9 Tryz.underlying4 hm hmax
  have hseq : SeqGives Fence.wide 2 Tryz.prog 62 #[.pointer (some ⟨B, 0, none⟩)] Go.Proofs.encStr (fun ss => ss.Perm (strKeys D)) (Maps.size D) w :=
    AnyZ.keys_gives (ρ := Tryz.keysA_ren) { Tryz.keysA with } Fence.wide _ trivial rfl (by omega) B mb l.length D w hB.lt (hB.cell rfl) hown
  have cS := AnyZ.sorted_in Tryz.sortedA Fence.wide 5 trivial trivial trivial trivial rfl (by omega) (sortsA _) (enters_of Tryz.func61 (by kernel_rfl) rfl) 62 #[.pointer (some ⟨B, 0, none⟩)] trivial (enters_of Tryz.func62 (by kernel_rfl) rfl) _ _ (by omega) (by omega) w hseq
  refine (callsIn_wide.1 cS).mono ?_
  rintro e w' ⟨v, ss, rfl, hS, hrow, hnil, hb⟩
  have hkeys : (l.map fun p => p.1.data.toList).Nodup := by
    obtain ⟨_, _, _, _, _, hn, _⟩ := hm
    have : l.map (fun p => p.1.data.toList) = (l.map (·.1)).map (fun s => s.data.toList) := by rw [List.map_map]; rfl
    rw [this]
    exact List.pairwise_map.2 (hn.imp (fun h e => h (WideShapes.bytes_inj e)))
  have hpm : ss.Perm (l.map fun p => p.1.data.toList) := hS.trans hP
  have hnd : ss.Nodup := hpm.nodup_iff.2 hkeys
  refine ⟨(v, (ss.mergeSort (fun x y => decide (x ≤ y))).map fun c => (⟨c.toArray⟩ : ByteArray)), rfl, ⟨pairwise_less hnd, fun x => ?_⟩, ?_⟩
  · rw [List.mem_map]
    constructor
    · rintro ⟨c, hc, rfl⟩
      have : c ∈ l.map fun p => p.1.data.toList := hpm.mem_iff.1 ((List.mergeSort_perm ss _).mem_iff.1 hc)
      obtain ⟨p, hp, rfl⟩ := List.mem_map.1 this
      exact List.mem_map.2 ⟨p, hp, rfl⟩
    · intro hx
      obtain ⟨p, hp, rfl⟩ := List.mem_map.1 hx
      exact ⟨p.1.data.toList, (List.mergeSort_perm ss _).mem_iff.2 (hpm.mem_iff.2 (List.mem_map.2 ⟨p, hp, rfl⟩)), rfl⟩
  · have he : (ss.mergeSort (fun x y => decide (x ≤ y))).map Go.Proofs.encStr = ((ss.mergeSort (fun x y => decide (x ≤ y))).map fun c => (⟨c.toArray⟩ : ByteArray)).map Value.string := by rw [List.map_map]; rfl
    have hlen : (ss.mergeSort (fun x y => decide (x ≤ y))).length = ss.length := List.length_mergeSort ss
    rw [he] at hrow
    show Sat w [row false v (List.map _ _).length _ 9 1] w'
    rw [List.length_map, hlen]
    refine (Sat.refl w).add hb (ownsRow_base_a hrow (Nat.zero_le _)) (fun b hb' => ?_) rfl
    rcases hrow.2 with ⟨e0, _⟩ | ⟨g, cap, cur, e0, h1, h2, _⟩
    · rw [e0] at hb'; cases hb'
    · rw [e0] at hb'
      have : g = b := by injection (hb' : some g = some b)
      subst this
      exact ⟨h1, (Array.getElem?_eq_some_iff.1 h2).1⟩
/-! Children. -/
def hierB (h : ByteArray) : ByteArray := if h = ByteArray.empty then ByteArray.empty else h ++ dotB
def hasB (s h : ByteArray) : Bool := Lib.hasPrefix s.data.toList h.data.toList
def restB (s h : ByteArray) : ByteArray := ⟨(Lib.trimPrefix s.data.toList h.data.toList).toArray⟩
def firstB (s : ByteArray) : ByteArray := ⟨(Lib.cut s.data.toList [46]).1.toArray⟩
def childErr (l : List ByteArray) (h : ByteArray) : Nat := if h = ByteArray.empty then sortErr l else if checkG h = 0 then sortErr l else checkG h
/-- What Children returns. -/
def ChildOf (l : List ByteArray) (h : ByteArray) (m : List ByteArray) : Prop :=
  if childErr l h = 0 then m.Pairwise lessS ∧ ∀ x, x ∈ m ↔ ∃ s ∈ l, hasB s (hierB h) = true ∧ firstB (restB s (hierB h)) = x else m = []
theorem setK_keysIff (L : List (ByteArray × Bool)) (x : ByteArray) (v : Bool) (y : ByteArray) : y ∈ (setK L x v).map (·.1) ↔ y = x ∨ y ∈ L.map (·.1) := by
  unfold setK
  split
  · rename_i h
    simp only [List.any_eq_true, decide_eq_true_eq] at h
    obtain ⟨p, hp, rfl⟩ := h
    have : (L.map fun q => if q.1 = p.1 then (p.1, v) else q).map (·.1) = L.map (·.1) := by
      rw [List.map_map]
      refine List.map_congr_left fun q _ => ?_
      simp only [Function.comp]
      split <;> simp [*]
    rw [this]
    constructor
    · exact .inr
    · rintro (rfl | h)
      · exact List.mem_map.2 ⟨p, hp, rfl⟩
      · exact h
  · rw [List.map_append, List.mem_append]
    simp only [List.map_cons, List.map_nil, List.mem_singleton]
    exact Or.comm
theorem setK_len (L : List (ByteArray × Bool)) (x : ByteArray) (v : Bool) : (setK L x v).length ≤ L.length + 1 := by
  unfold setK
  split <;> simp
section
variable {P : Program} {N : Nat} {env : Env} {r w : World} {O : List Own} {Q : Exit → Act → World → Prop} {ops : Array Oper} {rest : List Oper} {d : Nat} {ty : TypeId} {pos : String} {after : Array Edge}
/-- The result is told up to a ghost; nothing elder has turned. -/
theorem k_callx {σ : Type} {val : σ → Value} {ok : σ → Prop} {f : FuncId} {xs : Array Operand} {ats : Array TypeId} {args : List Value} (hc : callable P f = true) (hd : Nat.blt d N = true) (hx : evs env xs.toList = some args) (hC : ∀ w, Sat r O w → Calls P f args.toArray w fun e w' => ∃ s, e = .returned (val s) ∧ ok s ∧ Below w.heap.size w w')
    (h : ∀ s, ok s → K N ((d, val s) :: env) r O (wpList P ops Q rest)) :
    K N env r O (wpList P ops Q (⟨some d, .call { callee := .value (.func f), args := xs, argTypes := ats }, ty, pos, after, none⟩ :: rest)) :=
  k_call hc hd hx hC fun _ _ w' hw ⟨s, h1, h2, h3⟩ => ⟨val s, h1, h s h2 w' (hw.ext h3)⟩
end
theorem sortErr_zero {l : List ByteArray} (h : sortErr l = 0) : l.length ≤ 4096 ∧ errG l = 0 := by
  unfold sortErr at h
  split at h
  · cases h
  · exact ⟨by omega, h⟩
theorem restB_size (s h : ByteArray) : (restB s h).size ≤ s.size := by
  unfold restB Lib.trimPrefix
  split
  · show (List.drop _ _).toArray.size ≤ _
    rw [List.size_toArray, List.length_drop]
    show s.data.size - _ ≤ s.data.size
    omega
  · exact Nat.le_refl _
theorem cutPrefix_any (s p : ByteArray) (w : World) : Calls Tryz.prog 38 #[.string s, .string p] w fun e w' => e = .returned (.tuple #[.string (restB s p), .bool (hasB s p)]) ∧ Below w.heap.size w w' :=
  (Tryz.strings_CutPrefix s p w).mono fun e w' ⟨h1, h2⟩ => ⟨h1, h2 ▸ Below.refl _ _⟩
theorem cut_any (s : ByteArray) (m : Int) (w : World) (hs : s.size < 4294967281) (hm : w.cell? ⟨0, 0, none⟩ = some (.int .i64 m)) : Calls Tryz.prog 39 #[.string s, .string ⟨#[46]⟩] w fun e w' => ∃ x : ByteArray × Bool, e = .returned (.tuple #[.string (firstB s), .string x.1, .bool x.2]) ∧ True ∧ Below w.heap.size w w' :=
  (Tryz.strings_Cut s ⟨#[46]⟩ m w hs hm).mono fun e w' ⟨h1, n, h2⟩ => ⟨(_, _), h1, trivial, h2 ▸ ⟨rfl, rfl, rfl, Nat.le_refl _, fun _ _ => rfl⟩⟩
theorem firstB_size (s : ByteArray) : (firstB s).size ≤ s.size := by
  unfold firstB Lib.cut
  split
  · show (List.take _ _).toArray.size ≤ _
    rw [List.size_toArray, List.length_take]
    show min _ s.data.size ≤ s.data.size
    omega
  · exact Nat.le_refl _
set_option maxRecDepth 100000
attribute [local irreducible] errG checkG UpG hasB restB firstB
attribute [local irreducible] K KS KLeft KRound J OV EV EU Blk wpList Code.wp bodyPost Exit.then Exit.inBlock Round Left Hid JS wpStill wpHeld Calls
theorem children_any (v : Value) (l : List ByteArray) (h : ByteArray) (m : Int) (r : World) (hv : StrsAt r v l) (hl : ∀ s ∈ l, s.size ≤ 9223372036854775807) (hn : l.length ≤ 9223372036854775807) (hh : h.size ≤ 9223372036854775807) (hm : r.cell? ⟨0, 0, none⟩ = some (.int .i64 m)) :
    Calls Tryz.prog 15 #[v, .string h] r fun e w' => ∃ s : Value × List ByteArray, e = .returned (.tuple #[s.1, .int .i64 (childErr l h : Nat)]) ∧ ChildOf l h s.2 ∧ Sat r [row false s.1 s.2.length (s.2.map Value.string) 9 1] w' := by
  have hN : childErr l h ≠ 0 → ChildOf l h [] := fun h => by unfold ChildOf; rw [if_neg h]
  have hY : childErr l h = 0 → ∀ m, m.Pairwise lessS → (∀ x, x ∈ m ↔ ∃ s ∈ l, hasB s (hierB h) = true ∧ firstB (restB s (hierB h)) = x) → ChildOf l h m := fun h m h1 h2 => by unfold ChildOf; rw [if_pos h]; exact ⟨h1, h2⟩
  refine k_enter (N := 60) Tryz.func15 rfl rfl rfl ?_
  apply k_join (σ := Unit) (fun _ => [(0, v), (1, .string (hierB h)), (27, v)]) (fun _ => []) (fun _ => childErr l h = sortErr l)
  · intro key
    refine walkB ?_
    refine k_condn rfl (fun h0 => ?_) (fun h0 => ?_)
    · have e1 : hierB h = h ++ dotB := by unfold hierB; exact if_neg h0
      rw [e1] at key
      refine walkB ?_
      refine k_callb (v := .int .i64 (checkG h)) (by kernel_rfl) rfl rfl (fun w hw => checkG_any h m w hh (cell_ext (hw.below rfl) hm)) ?_
      by_cases hc : checkG h = 0
      · have e2 : childErr l h = sortErr l := by unfold childErr; exact (if_neg h0).trans (if_pos hc)
        rw [hc]
        refine walkB ?_
        refine k_op rfl (fun w hw => ov_sadd rfl rfl (by have := checkG_size hc; show h.size + 1 ≤ _; omega)) ?_
        refine walkB ?_
        exact key _ _ () (by repeat (first | exact Sub.nil | refine Sub.cons rfl ?_)) (by repeat (first | exact SubO.nil | refine SubO.keep ?_ | refine SubO.drop rfl ?_)) e2
      · have e2 : childErr l h = checkG h := by unfold childErr; exact (if_neg h0).trans (if_neg hc)
        refine walkB ?_
        exact k_ret2 rfl rfl rfl fun w hw => ⟨(.slice none 0 0, []), by rw [e2], hN (by rw [e2]; exact hc), sat_nil hw⟩
    · have e1 : hierB h = h := by unfold hierB; exact (if_pos h0).trans h0.symm
      have e2 : childErr l h = sortErr l := by unfold childErr; exact if_pos h0
      rw [e1] at key
      refine walkB ?_
      exact key _ _ () (by repeat (first | exact Sub.nil | refine Sub.cons rfl ?_)) (by repeat (first | exact SubO.nil | refine SubO.keep ?_ | refine SubO.drop rfl ?_)) e2
  rintro ⟨⟩ hce
  rw [hce] at hN hY ⊢
  generalize hierB h = g at hY
  refine k_call (by kernel_rfl) rfl rfl (fun w hw => sort_any v l m w (hv.ext (hw.below rfl)) hl hn (cell_ext (hw.below rfl) hm)) ?_
  rintro w e w' hw ⟨⟨av, all⟩, rfl, hso, hw'⟩
  refine ⟨_, rfl, j_of_k (hw.join hw' rfl) ?_⟩
  dsimp only
  show K 60 _ r [row false av all.length (all.map Value.string) 9 1] _
  by_cases hse : sortErr l = 0
  · unfold SortOf at hso
    rw [if_pos hse] at hso
    have hY' := hY hse
    rw [hse]
    have hall : ∀ s ∈ all, s.size ≤ 80 := fun s hs => checkG_size (errG_zero.1 (sortErr_zero hse).2 s ((hso.2.1 s).1 hs))
    have hlen : all.length ≤ 4096 := by have h1 := (sortErr_zero hse).1; have h2 := hso.2.2; dsimp only at h2; omega
    refine walkB ?_
    refine k_makeMap encStr (fun s => s.size ≤ maxLen) encBool rfl ?_
    intro mb
    refine walkB ?_
    refine k_rowslice 1 rfl ?_
    rintro ⟨ea, cap, rfl⟩
    refine walkB ?_
    refine k_loop (σ := Nat × List (ByteArray × Bool)) (fun t => [(1, .string g), (9, .map (some mb)), (35, .slice ea all.length cap), (36, .int .i64 all.length), (37, .int .i64 t.1)]) (fun t => [mp encStr (fun s => s.size ≤ maxLen) encBool false mb t.2, row false (.slice ea all.length cap) all.length (all.map Value.string) 9 1]) (fun t => t.1 ≤ all.length ∧ t.2.length ≤ t.1 ∧ ∀ x, x ∈ t.2.map (·.1) ↔ ∃ s ∈ all.take t.1, hasB s g = true ∧ firstB (restB s g) = x) (fun t => all.length - t.1) (0, []) (by repeat (first | exact Sub.nil | refine Sub.cons rfl ?_)) (by repeat (first | exact SubO.nil | refine SubO.keep ?_ | refine SubO.drop rfl ?_)) ⟨Nat.zero_le _, Nat.le_refl _, by simp⟩ ?_
    rintro ⟨k, L⟩ ⟨hk, hL, hM⟩
    dsimp only at hk hL hM ⊢
    by_cases hlt : k < all.length
    · refine k_rowsomeG 1 (by omega) rfl ?_
      rintro ⟨gb, c', hg⟩
      injection hg with hg _ hc; subst hg hc
      have hv : (all.map Value.string)[k]? = some (.string all[k]) := by rw [List.getElem?_map, List.getElem?_eq_getElem hlt]; rfl
      have hsz := hall all[k] (List.getElem_mem hlt)
      have hM2 : ∀ x, (∃ s ∈ all.take (k + 1), hasB s g = true ∧ firstB (restB s g) = x) ↔ (∃ s ∈ all.take k, hasB s g = true ∧ firstB (restB s g) = x) ∨ (hasB all[k] g = true ∧ firstB (restB all[k] g) = x) := by
        intro x
        rw [List.take_succ_eq_append_getElem hlt]
        simp only [List.mem_append, List.mem_singleton]
        constructor
        · rintro ⟨s, hs | rfl, h2⟩
          · exact .inl ⟨s, hs, h2⟩
          · exact .inr h2
        · rintro (⟨s, hs, h2⟩ | h2)
          · exact ⟨s, .inl hs, h2⟩
          · exact ⟨_, .inr rfl, h2⟩
      generalize all[k] = s at hv hsz hM2
      refine walkB ?_
      refine k_op rfl (fun w hw => ov_rowG 1 hw inferInstance rfl rfl hv) ?_
      refine walkB ?_
      refine k_callb (v := .tuple #[.string (restB s g), .bool (hasB s g)]) (by kernel_rfl) rfl rfl (fun w hw => cutPrefix_any s g w) ?_
      refine walkB ?_
      cases hb : hasB s g with
      | true =>
        refine walkB ?_
        refine k_callx (by kernel_rfl) rfl rfl (fun w hw => cut_any (restB s g) m w (by have := restB_size s g; omega) (cell_ext (hw.below rfl) hm)) ?_
        rintro x -
        refine walkB ?_
        refine k_update0 (key_str Tryz.underlying9) (firstB (restB s g)) true (by have h1 := restB_size s g; have h2 := firstB_size (restB s g); unfold maxLen; omega) rfl rfl rfl rfl ?_
        refine walkB ?_
        refine k_round (k + 1, setK L (firstB (restB s g)) true) (by repeat (first | exact Sub.nil | refine Sub.cons rfl ?_)) (by repeat (first | exact SubO.nil | refine SubO.keep ?_ | refine SubO.drop rfl ?_)) ⟨by dsimp only; omega, by dsimp only; have := setK_len L (firstB (restB s g)) true; omega, fun x => ?_⟩ (by dsimp only; omega)
        dsimp only
        rw [setK_keysIff, hM2 x, hM x, hb]
        constructor
        · rintro (rfl | h2)
          · exact .inr ⟨rfl, rfl⟩
          · exact .inl h2
        · rintro (h2 | ⟨_, h2⟩)
          · exact .inr h2
          · exact .inl h2.symm
      | false =>
        refine walkB ?_
        refine k_round (k + 1, L) (by repeat (first | exact Sub.nil | refine Sub.cons rfl ?_)) (by repeat (first | exact SubO.nil | refine SubO.keep ?_ | refine SubO.drop rfl ?_)) ⟨by dsimp only; omega, by dsimp only; omega, fun x => ?_⟩ (by dsimp only; omega)
        dsimp only
        rw [hM2 x, hM x, hb]
        simp
    · have hkl : k = all.length := by omega
      subst hkl
      rw [List.take_length] at hM
      refine walkB ?_
      refine k_callS (own := fun b => [bk false b [.map (some mb)] 62]) (ok := fun _ => True) (fun _ => rfl) (by kernel_rfl) rfl rfl (fun w hw => keys_call mb w) ?_
      intro B _
      refine walkB ?_
      refine k_call (by kernel_rfl) rfl rfl (fun w hw => sorted_call B mb L w (hw.blk 0 rfl) (hw.get 1 rfl) (by omega)) ?_
      rintro w e w' hw ⟨⟨sv, ss⟩, rfl, ⟨h1, h2⟩, hw'⟩
      refine ⟨_, rfl, j_of_k (hw.join hw' rfl) ?_⟩
      show K 60 _ r (row false sv ss.length (ss.map Value.string) 9 1 :: _) _
      have hfin := hY' ss h1 (fun x => by
        rw [h2 x, hM x]
        constructor
        · rintro ⟨s, hs, h3⟩; exact ⟨s, (hso.2.1 s).1 hs, h3⟩
        · rintro ⟨s, hs, h3⟩; exact ⟨s, (hso.2.1 s).2 hs, h3⟩)
      refine walkB ?_
      exact k_ret2 rfl rfl rfl fun w hw => ⟨(sv, ss), rfl, hfin, hw.sub (.keep (.drop rfl (.drop rfl (.drop rfl .nil))))⟩
  · unfold SortOf at hso
    rw [if_neg hse] at hso
    subst hso
    refine walkB ?_
    exact k_ret2 rfl rfl rfl fun w hw => ⟨(.slice none 0 0, []), rfl, hN hse, sat_nil (hw.sub (.drop rfl .nil))⟩
end Go.Proofs.YtdolgoplflpbgaaGreatDoor
