/- Results that lie in cells. No program. -/
import Derived.Test.YtddiecdoaggaaaaGreatDoorWalk
namespace Go.Proofs.YtddiecdoaggaaaaGreatDoor
open Go.RowKit

def tupled (vs : List Value) : Value := match vs with
  | [v] => v
  | vs => .tuple vs.toArray
def oneRes (tmps : Array Value) : ResultVar → Sem Value
  | .tmp t => pure (tmps.getD t undef)
  | .cell a t => do loadVar t (← asAddr (tmps.getD a undef))
theorem run_results {P : Program} {w : World} {fn : Func} {l : List ResultVar} {tmps : Array Value} {vs : List Value} (hf : fn.results = l.toArray) (h : ∀ (i : Nat) (x : ResultVar), l[i]? = some x → ∃ v, vs[i]? = some v ∧ (oneRes tmps x).run P w = .ok v w) (hl : vs.length = l.length) : (results fn tmps).run P w = .ok (tupled vs) w := by
  have key : ∀ (l : List ResultVar) (vs : List Value), vs.length = l.length → (∀ (i : Nat) (x : ResultVar), l[i]? = some x → ∃ v, vs[i]? = some v ∧ (oneRes tmps x).run P w = .ok v w) → (l.mapM (oneRes tmps)).run P w = .ok vs w := by
    intro l
    induction l with
    | nil => intro vs hl _; have : vs = [] := List.eq_nil_of_length_eq_zero hl; subst this; simp
    | cons x l ih =>
      intro vs hl h
      match vs, hl with
      | v :: vs, hl =>
        obtain ⟨v', hv, hr⟩ := h 0 x rfl
        simp at hv
        subst hv
        have := ih vs (by simpa using hl) (fun i x hi => by
          obtain ⟨v, h1, h2⟩ := h (i + 1) x (by simpa using hi)
          exact ⟨v, by simpa using h1, h2⟩)
        simp [List.mapM_cons, hr, this]
  have h2 := key l vs hl h
  have h1 : (fn.results.mapM (oneRes tmps)).run P w = .ok vs.toArray w := by
    rw [hf]
    simp [h2]
  have h3 : (results fn tmps) = (do let us ← fn.results.mapM (oneRes tmps); pure (if h : us.size = 1 then us[0] else Value.tuple us)) := by
    unfold results
    congr 1
  rw [h3]
  simp only [Sem.run_bind, h1, Result.andThen_ok, Sem.run_pure]
  congr 1
  match vs with
  | [] => rfl
  | [v] => rfl
  | v :: u :: vs =>
    simp [tupled]
theorem run_loadVar1 {P : Program} {w : World} {t : TypeId} {ad : Addr} {v : Value} [ht : TAgg P t false] (hc : w.cell? ad = some v) : (loadVar t ad).run P w = .ok v w := by
  simp only [loadVar, Sem.run_bind, Result.andThen_ok, ht.run]
  simp [load, Sem.run, hc]
theorem run_loadVarA {P : Program} {w : World} {t : TypeId} {ad : Addr} {n : Nat} {cs : List Value} [ht : TAgg P t true] [hs : TSize P t n] (hn : cs.length = n) (hc : ∀ j u, cs[j]? = some u → w.cell? (ad.add j) = some u) : (loadVar t ad).run P w = .ok (.agg cs.toArray) w := by
  have := run_loadCells_list (P := P) (w := w) ad cs hc
  subst hn
  simp only [loadVar, Sem.run_bind, Result.andThen_ok, ht.run]
  simp [this, hs.run]
section
variable {P : Program} {N : Nat} {env : Env} {r : World} {O : List Own} {fn : Func} {R : Ending → World → Prop}
/-- What a result is. -/
inductive RV (P : Program) (env : Env) (w : World) : ResultVar → Value → Prop
  | tmp {t : Tmp} {v : Value} : look env t = some v → RV P env w (.tmp t) v
  | cell {a : Tmp} {t : TypeId} {ad : Addr} {v : Value} : look env a = some (.pointer (some ad)) → (loadVar t ad).run P w = .ok v w → RV P env w (.cell a t) v
inductive RVs (P : Program) (env : Env) (w : World) : List ResultVar → List Value → Prop
  | nil : RVs P env w [] []
  | cons {x : ResultVar} {v : Value} {l : List ResultVar} {vs : List Value} : RV P env w x v → RVs P env w l vs → RVs P env w (x :: l) (v :: vs)
theorem RVs.len {w : World} {l : List ResultVar} {vs : List Value} (h : RVs P env w l vs) : vs.length = l.length := by
  induction h with
  | nil => rfl
  | cons _ _ ih => simp [ih]
theorem RVs.at {w : World} {l : List ResultVar} {vs : List Value} (h : RVs P env w l vs) : ∀ (i : Nat) (x : ResultVar), l[i]? = some x → ∃ v, vs[i]? = some v ∧ RV P env w x v := by
  induction h with
  | nil => intro i x h; cases h
  | cons hx _ ih =>
    intro i x h
    cases i with
    | zero => simp at h; subst h; exact ⟨_, rfl, hx⟩
    | succ i => obtain ⟨v, h1, h2⟩ := ih i x (by simpa using h); exact ⟨v, by simpa using h1, h2⟩
theorem k_retc {l : List ResultVar} {vs : List Value} (hf : fn.results = l.toArray) (h1 : ∀ w, Sat r O w → RVs P env w l vs) (h2 : ∀ w, Sat r O w → R (.returned (tupled vs)) w) : K N env r O (bodyPost P fn R .ret) := by
  intro w hw a ha
  refine bodyPost_ret (run_results (vs := vs) hf ?_ (h1 w hw).len) ha.defers (h2 w hw)
  intro i x hx
  obtain ⟨v, hv, hr⟩ := (h1 w hw).at i x hx
  refine ⟨v, hv, ?_⟩
  cases hr with
  | tmp h => simp [oneRes, ha.get _ _ h]
  | cell h hl =>
    simp only [oneRes, ha.get _ _ h, Sem.run_bind]
    simp [asAddr, hl]
theorem rv_own {w : World} {a : Tmp} {t t0 : TypeId} {f : Bool} {b : Nat} {cs : List Value} {v : Value} [TAgg P t false] (i : Nat) (hw : Sat r O w) (hx : look env a = some (.pointer (some ⟨b, 0, none⟩))) (hO : nthO O i = some (bk f b cs t0)) (hv : cs[0]? = some v) : RV P env w (.cell a t) v :=
  .cell hx (run_loadVar1 ((hw.blk i hO).cell hv))
theorem rv_agg {w : World} {a : Tmp} {t t0 : TypeId} {f : Bool} {b n : Nat} {cs : List Value} [TAgg P t true] [TSize P t n] (i : Nat) (hw : Sat r O w) (hx : look env a = some (.pointer (some ⟨b, 0, none⟩))) (hO : nthO O i = some (bk f b cs t0)) (hn : cs.length = n) : RV P env w (.cell a t) (.agg cs.toArray) :=
  .cell hx (run_loadVarA hn (hw.blk i hO).cells)
end
/-! What a callee has made joins what the caller has. -/
theorem Sat.join {r w w' : World} {O O2 : List Own} (h : Sat r O w) (h2 : Sat w O2 w') (hn : noOld O2 = true) : Sat r (O2 ++ O) w' := by
  have hb := h2.below hn
  have h' := h.ext hb
  have hfresh : ∀ o ∈ O2, ∀ b, o.foot b → w.heap.size ≤ b := fun o ho b hf => by
    have h1 := List.all_eq_true.1 hn o ho
    exact ((h2.all o ho).2 b hf).2 (by simpa using h1)
  refine ⟨h'.os, h'.tape, h'.output, h'.size, fun k hk hh => h'.agree k hk fun o ho => hh o (by simp [ho]), fun o ho => ?_, ?_⟩
  · rcases List.mem_append.1 ho with ho | ho
    · obtain ⟨h3, h4⟩ := h2.all o ho
      exact ⟨h3, fun b hf => ⟨(h4 b hf).1, fun _ => Nat.le_trans h.size (hfresh o ho b hf)⟩⟩
    · exact h'.all o ho
  · rw [List.pairwise_append]
    refine ⟨h2.disj, h'.disj, fun a ha b hb k hk => ?_⟩
    have h3 := hfresh a ha k hk.1
    have h4 := ((h.all b hb).2 k hk.2).1
    omega
theorem k_callS {σ : Type} {val : σ → Value} {ok : σ → Prop} {own : σ → List Own} {P : Program} {N : Nat} {env : Env} {r : World} {O : List Own} {Q : Exit → Act → World → Prop} {ops : Array Oper} {rest : List Oper} {d : Nat} {ty : TypeId} {pos : String} {after : Array Edge} {f : FuncId} {xs : Array Operand} {ats : Array TypeId} {args : List Value}
    (hold : ∀ s, noOld (own s) = true) (hc : callable P f = true) (hd : Nat.blt d N = true) (hx : evs env xs.toList = some args)
    (hC : ∀ w, Sat r O w → Calls P f args.toArray w fun e w' => ∃ s, e = .returned (val s) ∧ ok s ∧ Sat w (own s) w')
    (h : ∀ s, ok s → K N ((d, val s) :: env) r (own s ++ O) (wpList P ops Q rest)) :
    K N env r O (wpList P ops Q (⟨some d, .call { callee := .value (.func f), args := xs, argTypes := ats }, ty, pos, after, none⟩ :: rest)) :=
  k_call hc hd hx hC fun _ _ w' hw ⟨s, h1, h2, h3⟩ => ⟨val s, h1, h s h2 w' (hw.join h3 (hold s))⟩
/-! A whole row is appended to a row of the call's own. -/
section
variable {P : Program} {N : Nat} {env : Env} {r w : World} {O : List Own} {Q : Exit → Act → World → Prop} {ops : Array Oper} {rest : List Oper} {d : Nat} {ty : TypeId} {pos : String} {after : Array Edge} {v : Value}
theorem k_appNilG {A C : List Own} {s x : Operand} {t e : TypeId} {z : Value} {size bytes : Nat} [ht : TElem P t e] [hi : TInfo P e z size bytes] {sv : Value} {n : Nat} {xs : List Value} (hd : Nat.blt d N = true) (hs : evx env s = some sv) (hx : evx env x = some (.slice none 0 0))
    (h : K N ((d, sv) :: env) r (A ++ row false sv n xs e size :: C) (wpList P ops Q rest)) :
    K N env r (A ++ row false sv n xs e size :: C) (wpList P ops Q (⟨some d, .call { callee := .builtin .append, args := #[s, x], argTypes := #[t, t] }, ty, pos, after, none⟩ :: rest)) :=
  fun w hw => j_append_nil (ht := ht) (hi := hi) hd hs hx (hw.all (row false sv n xs e size) (by simp)).1 (h w hw)
/-- x reads as ys: a row, or nil. -/
def RowNow (w : World) (xv : Value) (m : Nat) (ys : List Value) : Prop := (xv = .slice none 0 0 ∧ m = 0 ∧ ys = []) ∨ ∃ ad cap, xv = .slice (some ad) m cap ∧ ∀ j u, ys[j]? = some u → w.cell? (ad.add j) = some u
theorem addr_add (b o j : Nat) : (⟨b, o, none⟩ : Addr).add j = ⟨b, o + j, none⟩ := by unfold Addr.add; split <;> simp [*]
theorem rowNow_of_own {w : World} {base : Nat} {e : TypeId} {sz m : Nat} {xv : Value} {ys : List Value} (h : w.ownsRow base e sz xv m ys) : RowNow w xv m ys := by
  have h' := h
  obtain ⟨h1, h2⟩ := h
  rcases h2 with ⟨rfl, rfl⟩ | ⟨g, cap, cur, rfl, _⟩
  · exact .inl ⟨rfl, rfl, List.eq_nil_of_length_eq_zero (by simpa using h1)⟩
  · exact .inr ⟨⟨g, 0, none⟩, cap, rfl, fun j u hj => h'.cells (g := g) rfl j u hj⟩
theorem k_appRowG {A C : List Own} {s x : Operand} {t e : TypeId} {z : Value} {size bytes : Nat} [ht : TElem P t e] [hi : TInfo P e z size bytes] {sv xv : Value} {n m : Nat} {xs ys : List Value} (hd : Nat.blt d N = true) (hs : evx env s = some sv) (hx : evx env x = some xv)
    (hn : ∀ w, Sat r (A ++ row false sv n xs e size :: C) w → RowNow w xv m ys) (hl : ys.length = m * size) (h1 : ys.all (·.oneCell') = true) (hzs : z.cells.size = size) (hsz : Nat.blt 0 size = true) (h63 : (n + m) * bytes ≤ 140737488355328) (h64 : n + m ≤ maxLen)
    (h : ∀ v', K N ((d, v') :: env) r (A ++ row false v' (n + m) (xs ++ ys) e size :: C) (wpList P ops Q rest)) :
    K N env r (A ++ row false sv n xs e size :: C) (wpList P ops Q (⟨some d, .call { callee := .builtin .append, args := #[s, x], argTypes := #[t, t] }, ty, pos, after, none⟩ :: rest)) := by
  intro w hw
  rcases hn w hw with ⟨rfl, rfl, rfl⟩ | ⟨ad, cap, rfl, _⟩
  · refine k_appNilG (ht := ht) (hi := hi) hd hs hx ?_ w hw
    have := h sv
    simpa using this
  · refine k_appG (ht := ht) (hi := hi) (m := m) (c := cap) (news := ys) (ad := ad) hd hs hx (fun w hw j u hj => ?_) hl h1 hzs hsz h63 h64 h w hw
    rcases hn w hw with ⟨h2, _⟩ | ⟨ad', cap', h2, h3⟩
    · cases h2
    · cases h2
      exact h3 j u hj
end
end Go.Proofs.YtddiecdoaggaaaaGreatDoor
