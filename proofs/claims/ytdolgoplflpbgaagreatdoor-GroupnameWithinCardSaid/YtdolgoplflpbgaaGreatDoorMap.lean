/- Maps that the call has made, over keys of any type that has a law: they read as a list of pairs. No program. -/
import Derived.Test.YtdolgoplflpbgaaGreatDoorWalk
import Derived.Maps.Own
import Derived.StringKeys
import Derived.WideMake
namespace Go.Proofs.YtdolgoplflpbgaaGreatDoor
open Go.RowKit Go.Maps Go.ChangeMaps

/-- How keys of type k are written; ok: which of them may occur. -/
structure KeyEnc (P : Program) (k : TypeId) {κ : Type} (enc : κ → Value) (ok : κ → Prop) : Prop where
  keyed : Keyed P k
  lit : ∀ x, ok x → ∃ l, keyOf P k (enc x) = some l
  inj : ∀ x y, enc x = enc y → x = y

section
variable {κ ν : Type} [DecidableEq κ]
def getK (l : List (κ × ν)) (x : κ) : Option ν := (l.find? fun p => decide (p.1 = x)).map (·.2)
def setK (l : List (κ × ν)) (x : κ) (v : ν) : List (κ × ν) := if l.any (fun p => decide (p.1 = x)) then l.map (fun p => if p.1 = x then (x, v) else p) else l ++ [(x, v)]
theorem getK_none {l : List (κ × ν)} {x : κ} (h : ∀ p ∈ l, p.1 ≠ x) : getK l x = none := by
  unfold getK
  rw [List.find?_eq_none.2 (fun p hp => by simpa using h p hp)]; rfl
theorem getK_some {l : List (κ × ν)} {x : κ} {v : ν} (hn : (l.map (·.1)).Nodup) (h : (x, v) ∈ l) : getK l x = some v := by
  unfold getK
  induction l with
  | nil => cases h
  | cons p l ih =>
    simp only [List.map_cons, List.nodup_cons] at hn
    rw [List.find?_cons]
    rcases List.mem_cons.1 h with h | h
    · subst h; simp
    · have : p.1 ≠ x := fun e => hn.1 (by rw [e]; exact List.mem_map.2 ⟨_, h, rfl⟩)
      simp only [this, decide_false]
      exact ih hn.2 h
theorem setK_new {l : List (κ × ν)} {x : κ} {v : ν} (h : ∀ p ∈ l, p.1 ≠ x) : setK l x v = l ++ [(x, v)] := by
  unfold setK
  rw [if_neg (by simp only [List.any_eq_true, decide_eq_true_eq, not_exists, not_and]; exact h)]
theorem setK_old {l : List (κ × ν)} {x : κ} {v u : ν} {j : Nat} (hn : (l.map (·.1)).Nodup) (h : l[j]? = some (x, u)) : setK l x v = l.set j (x, v) := by
  unfold setK
  have hm : (x, u) ∈ l := List.mem_of_getElem? h
  rw [if_pos (by simp only [List.any_eq_true, decide_eq_true_eq]; exact ⟨_, hm, rfl⟩)]
  clear hm
  induction l generalizing j with
  | nil => cases h
  | cons p l ih =>
    simp only [List.map_cons, List.nodup_cons] at hn
    cases j with
    | zero =>
      simp at h
      subst h
      rw [List.map_cons, List.set_cons_zero, if_pos rfl]
      congr 1
      conv => rhs; rw [← List.map_id l]
      refine List.map_congr_left fun q hq => ?_
      rw [if_neg (fun e => hn.1 (by show x ∈ _; rw [← e]; exact List.mem_map.2 ⟨q, hq, rfl⟩))]; rfl
    | succ j =>
      have h' : l[j]? = some (x, u) := by simpa using h
      have : p.1 ≠ x := fun e => hn.1 (by rw [e]; exact List.mem_map.2 ⟨_, List.mem_of_getElem? h', rfl⟩)
      rw [List.map_cons, List.set_cons_succ, if_neg this, ih hn.2 h']
theorem setK_keys {l : List (κ × ν)} {x : κ} {v : ν} (hn : (l.map (·.1)).Nodup) : ((setK l x v).map (·.1)).Nodup := by
  unfold setK
  split
  · have : (l.map fun p => if p.1 = x then (x, v) else p).map (·.1) = l.map (·.1) := by
      rw [List.map_map]
      refine List.map_congr_left fun p _ => ?_
      simp only [Function.comp]
      split <;> simp [*]
    rw [this]; exact hn
  · rename_i h
    simp only [List.any_eq_true, decide_eq_true_eq, not_exists, not_and] at h
    rw [List.map_append, List.nodup_append]
    refine ⟨hn, by simp, fun a ha b hb e => ?_⟩
    simp only [List.map_cons, List.map_nil, List.mem_singleton] at hb
    obtain ⟨p, hp, rfl⟩ := List.mem_map.1 ha
    exact h p hp (e.trans hb)
theorem setK_mem {l : List (κ × ν)} {x : κ} {v : ν} {p : κ × ν} (h : p ∈ setK l x v) : p = (x, v) ∨ p ∈ l := by
  unfold setK at h
  split at h
  · obtain ⟨q, hq, rfl⟩ := List.mem_map.1 h
    split
    · exact .inl rfl
    · exact .inr hq
  · rcases List.mem_append.1 h with h | h
    · exact .inr h
    · exact .inl (by simpa using h)
theorem getK_setK {l : List (κ × ν)} {x y : κ} {v : ν} : getK (setK l x v) y = if x = y then some v else getK l y := by
  unfold setK
  split
  · rename_i h
    unfold getK
    induction l with
    | nil => simp at h
    | cons p l ih =>
      by_cases hp : p.1 = x
      · simp only [List.map_cons, if_pos hp, List.find?_cons]
        by_cases hxy : x = y
        · simp [hxy]
        · simp only [hxy, decide_false]
          have : p.1 ≠ y := fun e => hxy (hp.symm.trans e)
          simp only [this, decide_false]
          rw [if_neg (by simp)]
          clear ih h
          induction l with
          | nil => rfl
          | cons q l ih2 =>
            by_cases hq : q.1 = x
            · have : q.1 ≠ y := fun e => hxy (hq.symm.trans e)
              simp [hq, this, hxy]
              simpa using ih2
            · by_cases hqy : q.1 = y
              · rw [List.map_cons, if_neg hq, List.find?_cons_of_pos (by simpa using hqy), List.find?_cons_of_pos (by simpa using hqy)]
              · rw [List.map_cons, if_neg hq, List.find?_cons_of_neg (by simpa using hqy), List.find?_cons_of_neg (by simpa using hqy)]
                exact ih2
      · have h' : l.any (fun p => decide (p.1 = x)) = true := by simpa [hp] using h
        have := ih h'
        simp only [List.map_cons, if_neg hp, List.find?_cons]
        by_cases hpy : p.1 = y
        · have : x ≠ y := fun e => hp (hpy.trans e.symm)
          simp [hpy, this]
        · simp only [hpy, decide_false]; exact this
  · rename_i h
    simp only [List.any_eq_true, decide_eq_true_eq, not_exists, not_and] at h
    unfold getK
    rw [List.find?_append]
    by_cases hxy : x = y
    · subst hxy
      rw [List.find?_eq_none.2 (fun p hp => by simpa using h p hp)]; simp
    · rw [if_neg hxy]
      cases List.find? (fun p => decide (p.1 = y)) l <;> simp [hxy]
end

section
variable {P : Program} {k t e : TypeId} {κ ν : Type} {enc : κ → Value} {ok : κ → Prop} {encv : ν → Value} {w : World} {b : Nat}
/-- Block b is a map that reads as l. -/
def MapB (enc : κ → Value) (ok : κ → Prop) (encv : ν → Value) (w : World) (b : Nat) (l : List (κ × ν)) : Prop :=
  ∃ es clock, w.heap[b]? = some (.map es clock) ∧ es.toList.map (fun x => (x.key, x.val)) = l.map (fun p => (enc p.1, encv p.2)) ∧ (∀ p ∈ l, ok p.1) ∧ (l.map (·.1)).Nodup ∧ MapKept.Stamped es clock
theorem MapB.lt {l : List (κ × ν)} (h : MapB enc ok encv w b l) : b < w.heap.size := by
  obtain ⟨es, clock, h, _⟩ := h
  exact (Array.getElem?_eq_some_iff.1 h).1
theorem entry_at {es : Array MapEntry} {l : List (κ × ν)} (h : es.toList.map (fun x => (x.key, x.val)) = l.map (fun p => (enc p.1, encv p.2))) {j : Nat} {x : MapEntry} (hj : es[j]? = some x) : ∃ p, l[j]? = some p ∧ x.key = enc p.1 ∧ x.val = encv p.2 := by
  have h1 : (es.toList.map (fun x => (x.key, x.val)))[j]? = some (x.key, x.val) := by simp [hj]
  rw [h, List.getElem?_map] at h1
  cases hl : l[j]? with
  | none => rw [hl] at h1; cases h1
  | some p =>
    rw [hl] at h1
    simp only [Option.map_some, Option.some.injEq, Prod.mk.injEq] at h1
    exact ⟨p, rfl, h1.1.symm, h1.2.symm⟩
theorem keys_lit (K : KeyEnc P k enc ok) {es : Array MapEntry} {l : List (κ × ν)} (h : es.toList.map (fun x => (x.key, x.val)) = l.map (fun p => (enc p.1, encv p.2))) (hok : ∀ p ∈ l, ok p.1) : ∀ x ∈ es.toList, ∃ li, keyOf P k x.key = some li := by
  intro x hx
  have : (x.key, x.val) ∈ es.toList.map (fun x => (x.key, x.val)) := List.mem_map.2 ⟨x, hx, rfl⟩
  rw [h] at this
  obtain ⟨p, hp, e⟩ := List.mem_map.1 this
  simp only [Prod.mk.injEq] at e
  rw [← e.1]
  exact K.lit _ (hok p hp)
variable [DecidableEq κ]
theorem run_lookupK (K : KeyEnc P k enc ok) (ht : P.underlying t = some (.map k e)) {z : Value} (hz : (zeroValue e).run P w = .ok z w) {l : List (κ × ν)} (h : MapB enc ok encv w b l) {x : κ} (hx : ok x) (c : Bool) :
    (Instr.lookup t (.map (some b)) (enc x) c).run P w = .ok (match getK l x with
      | some v => if c then .tuple #[encv v, .bool true] else encv v
      | none => if c then .tuple #[z, .bool false] else z) w := by
  obtain ⟨es, clock, hb, hmap, hok, hn, hst⟩ := h
  obtain ⟨lx, hlx⟩ := K.lit x hx
  rcases K.keyed.find w hlx es.toList (keys_lit K hmap hok) with ⟨h1, h2⟩ | ⟨j, e0, h1, h2, h3⟩
  · have hnone : getK l x = none := by
      refine getK_none fun p hp e => ?_
      have : (enc p.1, encv p.2) ∈ l.map (fun p => (enc p.1, encv p.2)) := List.mem_map.2 ⟨p, hp, rfl⟩
      rw [← hmap] at this
      obtain ⟨y, hy, ey⟩ := List.mem_map.1 this
      simp only [Prod.mk.injEq] at ey
      exact h2 y hy (by rw [ey.1, e])
    rw [hnone]
    simp [Instr.lookup, run_underlying ht, MapKept.run_getObj_map hb, K.keyed.check w _ hlx, h1, hz, Result.andThen]
  · obtain ⟨p, hp, hk1, hv1⟩ := entry_at hmap (by simpa using h2)
    have hpx : p.1 = x := K.inj _ _ (hk1.symm.trans h3)
    have hsome : getK l x = some p.2 := getK_some hn (by
      have := List.mem_of_getElem? hp
      rw [← hpx]; exact this)
    rw [hsome]
    simp [Instr.lookup, run_underlying ht, MapKept.run_getObj_map hb, K.keyed.check w _ hlx, h1, Result.andThen, hv1]
theorem run_updateK (K : KeyEnc P k enc ok) (ht : P.underlying t = some (.map k e)) {l : List (κ × ν)} (h : MapB enc ok encv w b l) {x : κ} (hx : ok x) (v : ν) :
    ∃ w', (Instr.mapUpdate t (.map (some b)) (enc x) (encv v)).run P w = .ok () w' ∧ MapB enc ok encv w' b (setK l x v) ∧ w.grownBy w' (some b) ∧ w'.heap.size = w.heap.size := by
  have hMB := h
  obtain ⟨es, clock, hb, hmap, hok, hn, hst⟩ := h
  obtain ⟨lx, hlx⟩ := K.lit x hx
  have hlt := (Array.getElem?_eq_some_iff.1 hb).1
  have fin : ∀ (es' : Array MapEntry) (clock' : Nat), (Instr.mapUpdate t (.map (some b)) (enc x) (encv v)).run P w = .ok () (setBlock w b (.map es' clock')) → es'.toList.map (fun x => (x.key, x.val)) = (setK l x v).map (fun p => (enc p.1, encv p.2)) → MapKept.Stamped es' clock' → ∃ w', (Instr.mapUpdate t (.map (some b)) (enc x) (encv v)).run P w = .ok () w' ∧ MapB enc ok encv w' b (setK l x v) ∧ w.grownBy w' (some b) ∧ w'.heap.size = w.heap.size := by
    intro es' clock' hrun hm hst'
    refine ⟨_, hrun, ⟨es', clock', heap_setBlock_same hb _, hm, fun p hp => ?_, setK_keys hn, hst'⟩, ⟨rfl, rfl, rfl, by simp [setBlock], fun i _ hi => heap_setBlock_other hb _ (fun e => hi (by rw [e]))⟩, by simp [setBlock]⟩
    rcases setK_mem hp with rfl | hp
    · exact hx
    · exact hok p hp
  rcases K.keyed.find w hlx es.toList (keys_lit K hmap hok) with ⟨h1, h2⟩ | ⟨j, e0, h1, h2, h3⟩
  · have hnew : setK l x v = l ++ [(x, v)] := by
      refine setK_new fun p hp e => ?_
      have : (enc p.1, encv p.2) ∈ l.map (fun p => (enc p.1, encv p.2)) := List.mem_map.2 ⟨p, hp, rfl⟩
      rw [← hmap] at this
      obtain ⟨y, hy, ey⟩ := List.mem_map.1 this
      simp only [Prod.mk.injEq] at ey
      exact h2 y hy (by rw [ey.1, e])
    refine fin (es.push ⟨enc x, encv v, clock⟩) (clock + 1) ?_ (by rw [hnew]; simp [hmap]) (MapKept.stamped_push hst h2)
    simp [Instr.mapUpdate, run_underlying ht, MapKept.run_getObj_map hb, K.keyed.check w false hlx, h1, MapKept.run_setObj_map _ hb, Result.andThen, setBlock]
  · have h2' : es[j]? = some e0 := by simpa using h2
    obtain ⟨p, hp, hk1, hv1⟩ := entry_at hmap h2'
    have hpx : p.1 = x := K.inj _ _ (hk1.symm.trans h3)
    have hold : setK l x v = l.set j (x, v) := setK_old (u := p.2) hn (by rw [hp, ← hpx])
    refine fin (es.modify j fun y => { y with key := enc x, val := encv v }) clock ?_ ?_ (MapKept.stamped_modify hst j _ (fun _ _ => rfl) (fun e _ he => by rw [h2'] at he; injection he with he; rw [← he]; exact h3.symm))
    · have hst := K.keyed.stays w hlx
      simp [Instr.mapUpdate, run_underlying ht, MapKept.run_getObj_map hb, K.keyed.check w false hlx, h1, MapKept.run_setObj_map _ hb, Result.andThen, setBlock, h2', h3, hst]
    · rw [hold, List.map_set, ← hmap]
      apply List.ext_getElem?
      intro i
      simp only [List.getElem?_map, List.getElem?_set, Array.getElem?_toList, Array.getElem?_modify, List.length_map, Array.length_toList]
      by_cases hij : j = i
      · subst hij
        have hjl : j < es.size := (Array.getElem?_eq_some_iff.1 h2').1
        simp [h2', hjl]
      · simp [hij]
end

/-! In the engine. -/
/-- Block b is a map of the call's own. -/
def mp {κ ν : Type} (enc : κ → Value) (ok : κ → Prop) (encv : ν → Value) (f : Bool) (b : Nat) (l : List (κ × ν)) : Own := ⟨fun x => x = b, f, fun w => MapB enc ok encv w b l, fun w w' h hp => by
  obtain ⟨es, clock, h1, h2⟩ := hp
  exact ⟨es, clock, (h b rfl).trans h1, h2⟩⟩
section
variable {P : Program} {N : Nat} {env : Env} {r w : World} {O : List Own} {Q : Exit → Act → World → Prop} {ops : Array Oper} {rest : List Oper} {d : Nat} {ty : TypeId} {pos : String} {after : Array Edge}
variable {κ ν : Type} [DecidableEq κ] {enc : κ → Value} {ok : κ → Prop} {encv : ν → Value} {k e : TypeId}
omit [DecidableEq κ] in
theorem k_makeMap {t : TypeId} (enc : κ → Value) (ok : κ → Prop) (encv : ν → Value) (hd : Nat.blt d N = true) (h : ∀ b, K N ((d, .map (some b)) :: env) r (mp enc ok encv false b [] :: O) (wpList P ops Q rest)) :
    K N env r O (wpList P ops Q (⟨some d, .makeMap t none, ty, pos, after, none⟩ :: rest)) := by
  intro w hw
  refine j_ev hd (w' := w.alloc (.map #[] 0)) (v := .map (some w.heap.size)) ?_ ?_
  · intro ρ hρ o ho; unfold execOp; rw [ho]
    simp [Instr.makeMap]
  · have hx : Below w.heap.size w (w.alloc (.map #[] 0)) := (Below.refl _ _).alloc (Nat.le_refl _) _
    refine h _ _ (hw.add hx ⟨#[], 0, by show (w.heap.push _)[w.heap.size]? = _; simp, by simp, by simp, by simp, MapKept.stamped_empty 0⟩ (fun b hb => by cases (hb : b = _); exact ⟨Nat.le_refl _, by simp⟩) rfl)
/-- What a map yields at a key. -/
def mget (encv : ν → Value) (z : Value) (c : Bool) (l : List (κ × ν)) (x : κ) : Value := match getK l x with
  | some v => if c then .tuple #[encv v, .bool true] else encv v
  | none => if c then .tuple #[z, .bool false] else z
theorem ov_lookupB {t : TypeId} {m x : Operand} {b : Nat} {l : List (κ × ν)} {c : Bool} {z : Value} [ht : TMap P t k e] [hz : TZero P e z] (K : KeyEnc P k enc ok) (y : κ) (hy : ok y) (hb : MapB enc ok encv w b l) (hm : evx env m = some (.map (some b))) (hx : evx env x = some (enc y)) : OV P env (.lookup t m x c) w (mget encv z c l y) := by
  intro ρ hρ o ho; unfold execOp; rw [ho]
  have := run_lookupK K ht.eq (hz.run w) hb hy c
  simp only [hρ hm, hρ hx, Sem.run_bind, this, Result.andThen_ok, Sem.run_pure]
  unfold mget
  split <;> rfl
theorem ov_lookupO {t : TypeId} {m x : Operand} {b : Nat} {f : Bool} {l : List (κ × ν)} {c : Bool} {z : Value} [ht : TMap P t k e] [hz : TZero P e z] (i : Nat) (hw : Sat r O w) (K : KeyEnc P k enc ok) (y : κ) (hy : ok y) (hO : nthO O i = some (mp enc ok encv f b l)) (hm : evx env m = some (.map (some b))) (hx : evx env x = some (enc y)) : OV P env (.lookup t m x c) w (mget encv z c l y) :=
  ov_lookupB K y hy (hw.get i hO) hm hx
theorem k_updateG {A C : List Own} {t : TypeId} {m x y : Operand} {b : Nat} {f : Bool} {l : List (κ × ν)} [ht : TMap P t k e] (K' : KeyEnc P k enc ok) (a : κ) (v : ν) (ha : ok a) (hm : evx env m = some (.map (some b))) (hx : evx env x = some (enc a)) (hy : evx env y = some (encv v))
    (h : K N env r (A ++ mp enc ok encv f b (setK l a v) :: C) (wpList P ops Q rest)) :
    K N env r (A ++ mp enc ok encv f b l :: C) (wpList P ops Q (⟨none, .mapUpdate t m x y, ty, pos, after, none⟩ :: rest)) := by
  intro w hw
  have hb : MapB enc ok encv w b l := (hw.all (mp enc ok encv f b l) (by simp)).1
  obtain ⟨w', hrun, h1, h2, h3⟩ := run_updateK K' ht.eq hb ha v
  refine j_eu (w' := w') ?_ (h w' (hw.upd (o' := mp enc ok encv f b (setK l a v)) h2.os h2.tape h2.output h2.size (fun k hk hne => h2.block k hk (fun e => hne (by injection e with e))) h1 (fun k hk => ⟨.inl hk, by cases (hk : k = b); exact h1.lt⟩) rfl (fun _ k hk => hk)))
  intro ρ hρ o ho; unfold execOp; rw [ho]
  simp only [hρ hm, hρ hx, hρ hy, Sem.run_bind, hrun, Result.andThen_ok, Sem.run_pure]
theorem k_update0 { X : Own} {C : List Own} {t : TypeId} {m x y : Operand} {b : Nat} {f : Bool} {l : List (κ × ν)} [ht : TMap P t k e] (K' : KeyEnc P k enc ok) (a : κ) (v : ν) (ha : ok a) (hm : evx env m = some (.map (some b))) (hx : evx env x = some (enc a)) (hy : evx env y = some (encv v)) (hX : X = mp enc ok encv f b l)
    (h : K N env r ( mp enc ok encv f b (setK l a v) :: C) (wpList P ops Q rest)) :
    K N env r ( X :: C) (wpList P ops Q (⟨none, .mapUpdate t m x y, ty, pos, after, none⟩ :: rest)) := by
  subst hX
  exact k_updateG (A :=  []) K' a v ha hm hx hy h
theorem k_update1 {o0 X : Own} {C : List Own} {t : TypeId} {m x y : Operand} {b : Nat} {f : Bool} {l : List (κ × ν)} [ht : TMap P t k e] (K' : KeyEnc P k enc ok) (a : κ) (v : ν) (ha : ok a) (hm : evx env m = some (.map (some b))) (hx : evx env x = some (enc a)) (hy : evx env y = some (encv v)) (hX : X = mp enc ok encv f b l)
    (h : K N env r (o0 :: mp enc ok encv f b (setK l a v) :: C) (wpList P ops Q rest)) :
    K N env r (o0 :: X :: C) (wpList P ops Q (⟨none, .mapUpdate t m x y, ty, pos, after, none⟩ :: rest)) := by
  subst hX
  exact k_updateG (A := o0 :: []) K' a v ha hm hx hy h
theorem k_update2 {o0 o1 X : Own} {C : List Own} {t : TypeId} {m x y : Operand} {b : Nat} {f : Bool} {l : List (κ × ν)} [ht : TMap P t k e] (K' : KeyEnc P k enc ok) (a : κ) (v : ν) (ha : ok a) (hm : evx env m = some (.map (some b))) (hx : evx env x = some (enc a)) (hy : evx env y = some (encv v)) (hX : X = mp enc ok encv f b l)
    (h : K N env r (o0 :: o1 :: mp enc ok encv f b (setK l a v) :: C) (wpList P ops Q rest)) :
    K N env r (o0 :: o1 :: X :: C) (wpList P ops Q (⟨none, .mapUpdate t m x y, ty, pos, after, none⟩ :: rest)) := by
  subst hX
  exact k_updateG (A := o0 :: o1 :: []) K' a v ha hm hx hy h
theorem k_update3 {o0 o1 o2 X : Own} {C : List Own} {t : TypeId} {m x y : Operand} {b : Nat} {f : Bool} {l : List (κ × ν)} [ht : TMap P t k e] (K' : KeyEnc P k enc ok) (a : κ) (v : ν) (ha : ok a) (hm : evx env m = some (.map (some b))) (hx : evx env x = some (enc a)) (hy : evx env y = some (encv v)) (hX : X = mp enc ok encv f b l)
    (h : K N env r (o0 :: o1 :: o2 :: mp enc ok encv f b (setK l a v) :: C) (wpList P ops Q rest)) :
    K N env r (o0 :: o1 :: o2 :: X :: C) (wpList P ops Q (⟨none, .mapUpdate t m x y, ty, pos, after, none⟩ :: rest)) := by
  subst hX
  exact k_updateG (A := o0 :: o1 :: o2 :: []) K' a v ha hm hx hy h
theorem k_update4 {o0 o1 o2 o3 X : Own} {C : List Own} {t : TypeId} {m x y : Operand} {b : Nat} {f : Bool} {l : List (κ × ν)} [ht : TMap P t k e] (K' : KeyEnc P k enc ok) (a : κ) (v : ν) (ha : ok a) (hm : evx env m = some (.map (some b))) (hx : evx env x = some (enc a)) (hy : evx env y = some (encv v)) (hX : X = mp enc ok encv f b l)
    (h : K N env r (o0 :: o1 :: o2 :: o3 :: mp enc ok encv f b (setK l a v) :: C) (wpList P ops Q rest)) :
    K N env r (o0 :: o1 :: o2 :: o3 :: X :: C) (wpList P ops Q (⟨none, .mapUpdate t m x y, ty, pos, after, none⟩ :: rest)) := by
  subst hX
  exact k_updateG (A := o0 :: o1 :: o2 :: o3 :: []) K' a v ha hm hx hy h
end
/-! Keys. -/
def encInt (n : Int) : Value := .int .i64 n
theorem key_int {P : Program} {k : TypeId} (hk : P.underlying k = some (.int .i64)) : KeyEnc P k encInt (fun n => -9223372036854775808 ≤ n ∧ n ≤ 9223372036854775807) :=
  ⟨int_keyed hk, fun x hx => ⟨_, keyOf_int_mk hk (by simp only [Lit.wf, Bool.and_eq_true, decide_eq_true_eq]; exact hx)⟩, fun x y h => by cases h; rfl⟩
theorem ov_lookupI {P : Program} {env : Env} {r w : World} {O : List Own} {κ : Type} [DecidableEq κ] {enc : κ → Value} {ok : κ → Prop} {k e t : TypeId} {m x : Operand} {b : Nat} {f : Bool} {l : List (κ × Int)} [ht : TMap P t k e] [hz : TZero P e (.int .i64 0)] (i : Nat) (hw : Sat r O w) (K : KeyEnc P k enc ok) (y : κ) (hy : ok y) (hO : nthO O i = some (mp enc ok encInt f b l)) (hm : evx env m = some (.map (some b))) (hx : evx env x = some (enc y)) :
    OV P env (.lookup t m x false) w (.int .i64 ((getK l y).getD 0)) := by
  have := ov_lookupO (ht := ht) (hz := hz) (c := false) i hw K y hy hO hm hx
  unfold mget at this
  cases h : getK l y with
  | none => rw [h] at this; exact this
  | some v => rw [h] at this; exact this
def encStr (s : ByteArray) : Value := .string s
theorem key_str {P : Program} {k : TypeId} (hk : P.underlying k = some .string) : KeyEnc P k encStr (fun s => s.size ≤ maxLen) :=
  ⟨Keyed.of_law (WideMaps.string_law hk), fun x hx => ⟨.string x.data.toList, by simp [keyOf, hk, mapKey, encStr, hx]⟩, fun x y h => by cases h; rfl⟩
end Go.Proofs.YtdolgoplflpbgaaGreatDoor
