/- Draws are only counted up: no step takes one back. No program. -/
import Derived.Lone
import Derived.Calls
import Derived.StepT
import Derived.Deep.Draws
import Derived.Sort.Grow
import Derived.Below
namespace Go.Proofs.YtddiecdoaggaaaaGreatDoor
open Go Go.RowKit

def resW {α : Type} : Result α → World
  | .ok _ w => w
  | .halt _ w => w
theorem ask_drawn {α : Type} (k : Ask α) : ∀ w : World, w.drawn ≤ (w.ask k).2.drawn := by
  induction k with
  | done a => intro w; exact Nat.le_refl _
  | ask what range k ih =>
    intro w
    unfold World.ask
    dsimp only
    split
    · exact ih _ _
    · exact Nat.le_trans (Nat.le_succ w.drawn) (ih _ { w with drawn := w.drawn + 1 })
theorem sys_drawn (c : Sys) (w : World) : w.drawn ≤ (w.sys c).2.drawn := by
  unfold World.sys
  have h := ask_drawn (Kernel.perform c w.os) w
  split
  · exact Nat.le_refl _
  · rename_i h1; rw [h1] at h; exact h
theorem viewStore_drawn {p : Program} {w : World} {at_ : Addr} {u : TypeId} {k : Addr} {v : Value} {atomic : Bool} {r : World × List Addr} (h : w.viewStore p at_ u k v atomic = .ok r) : r.1.drawn = w.drawn := by
  unfold World.viewStore at h
  simp only [bind, Except.bind, pure, Except.pure, throw, throwThe, MonadExceptOf.throw] at h
  repeat' first
    | (cases h; done)
    | (injection h with h; subst h; rfl)
    | split at h
theorem farStore_drawn {p : Program} {w : World} {a : Addr} {v : Value} {atomic : Bool} {r : World × List Addr} (h : w.farStore p a v atomic = .ok r) : r.1.drawn = w.drawn := by
  unfold World.farStore at h
  split at h
  · split at h
    · rename_i h1; injection h with h; subst h; exact viewStore_drawn h1
    · cases h
  · cases h
theorem freeze_drawn (w : World) (a : Addr) (n : Nat) : (w.freeze a n).drawn = w.drawn := by unfold World.freeze; split <;> rfl
theorem run_drawn {α : Type} (p : Program) (s : Sem α) : ∀ w : World, w.drawn ≤ (resW (s.run p w)).drawn := by
  induction s with
  | pure a => intro w; exact Nat.le_refl _
  | load m a k ih =>
    intro w
    simp only [Sem.run]
    cases w.cell? a with
    | some v => exact ih _ _
    | none =>
      dsimp only
      cases w.farLoad p a (m == .atomic) with
      | ok r => exact ih _ _
      | error h => exact Nat.le_refl _
  | store m a v k ih =>
    intro w
    have key : w.drawn ≤ (resW (match w.cell? a with
      | some _ => if w.frozen? a then Result.halt (.unsupported (.unsafePointer "a write to bytes that a string shares")) w else k.run p (w.setCell a v)
      | none => match w.farStore p a v (m == .atomic) with
        | .ok (w, _) => k.run p w
        | .error h => .halt h w)).drawn := by
      cases w.cell? a with
      | some u =>
        dsimp only
        split
        · exact Nat.le_refl _
        · exact ih (w.setCell a v)
      | none =>
        dsimp only
        cases hf : w.farStore p a v (m == .atomic) with
        | ok r => exact Nat.le_trans (Nat.le_of_eq (farStore_drawn hf).symm) (ih _)
        | error h => exact Nat.le_refl _
    cases v <;> first | exact key | exact Nat.le_refl _
  | new o k ih => intro w; exact ih w.heap.size { w with heap := w.heap.push o }
  | shape r k ih => intro w; exact ih _ w
  | freeze a n k ih => intro w; exact Nat.le_trans (Nat.le_of_eq (freeze_drawn w a n).symm) (ih _)
  | frozen a k ih => intro w; exact ih _ w
  | getObj r k ih =>
    intro w
    simp only [Sem.run]
    cases w.heap[r]? with
    | none => exact Nat.le_refl _
    | some o => cases o <;> first | exact Nat.le_refl _ | exact ih _ w
  | setObj r o k ih =>
    intro w
    simp only [Sem.run]
    cases w.heap[r]? with
    | none => exact Nat.le_refl _
    | some o' => cases o' <;> first | exact Nat.le_refl _ | exact ih { w with heap := w.heap.setIfInBounds r o }
  | choose q k ih =>
    intro w
    simp only [Sem.run]
    split
    · exact ih _ w
    · exact Nat.le_trans (Nat.le_succ w.drawn) (ih _ { w with drawn := w.drawn + 1 })
  | sys c k ih => intro w; exact Nat.le_trans (sys_drawn c w) (ih _ _)
  | program k ih => intro w; exact ih _ w
  | mark m k ih => intro w; exact ih w
  | halt h => intro w; exact Nat.le_refl _
theorem run_drawn_ok {α : Type} {p : Program} {s : Sem α} {w w' : World} {v : α} (h : s.run p w = .ok v w') : w.drawn ≤ w'.drawn := by
  have := run_drawn p s w; rw [h] at this; exact this
theorem run_drawn_halt {α : Type} {p : Program} {s : Sem α} {w w' : World} {v : Halt} (h : s.run p w = .halt v w') : w.drawn ≤ w'.drawn := by
  have := run_drawn p s w; rw [h] at this; exact this
/-- What goes on has drawn no less. -/
def GUp (n : Nat) : GStep → Prop
  | .ended .. => True
  | .go _ w _ | .comm _ _ _ _ w _ | .spawn _ _ w _ | .count _ w _ | .timer _ _ w _ | .alone _ _ w _ | .newcoro _ _ _ w _ | .coroswitch _ _ _ w _ | .collect _ w _ | .watch _ w _ => n ≤ w.drawn
theorem gup_after {n : Nat} {es : Array Event} {s : GStep} (h : GUp n s) : GUp n (s.after es) := by cases s <;> exact h
theorem gup_le {n m : Nat} {s : GStep} (hnm : n ≤ m) (h : GUp m s) : GUp n s := by cases s <;> first | trivial | exact Nat.le_trans hnm h

section
variable {p : Program} {n : Nat}
theorem endWith_up {w : World} {fd : Nat} {text : ByteArray} {o : Outcome} : GUp n (endWith w fd text o) := by
  unfold endWith
  dsimp only
  repeat' split
  all_goals trivial
theorem dieOf_up {fr : Frame} {ahead : List ByteArray} {m : String} {whole : Bool} {w : World} (h : n ≤ w.drawn) : GUp n (dieOf fr ahead m whole w) := h
theorem endThrow_up {fr : Frame} {m : String} {w : World} (h : n ≤ w.drawn) : GUp n (endThrow fr m w) := h
theorem endPrinting_up {fr : Frame} {v : Value} {w : World} (h : n ≤ w.drawn) : GUp n (endPrinting p fr v w) := by
  unfold endPrinting
  dsimp only
  split
  · exact endThrow_up h
  · trivial
theorem endFatal_up {fr : Frame} {callers : List Frame} {dying : Option Dying} {m : String} {w : World} (h : n ≤ w.drawn) : GUp n (endFatal p fr callers dying m w) := by
  unfold endFatal
  dsimp only
  split
  · rename_i h1; exact dieOf_up (Nat.le_trans h (run_drawn_ok h1))
  · trivial
  · trivial
theorem writeOn_up {fr : Frame} {d : Dying} {f : Fatal} {w : World} (h : n ≤ w.drawn) : GUp n (writeOn p fr d f w) := by
  unfold writeOn
  dsimp only
  split
  · trivial
  · simp only [Sem.runT_eq]
    split
    · rename_i h1; injection h1 with h1; exact Nat.le_trans h (run_drawn_ok h1)
    · rename_i h1; injection h1 with h1; exact Nat.le_trans h (run_drawn_halt h1)
    · trivial
    · trivial
theorem die_up {fr : Frame} {d : Dying} {w : World} (h : n ≤ w.drawn) : GUp n (die p fr d w) := by
  unfold die
  simp only [Sem.runT_eq]
  repeat' first
    | trivial
    | exact h
    | exact endWith_up
    | exact writeOn_up h
    | (refine gup_after ?_)
    | (rename_i h1; exact Nat.le_trans h (run_drawn_ok h1))
    | (rename_i h1; exact endPrinting_up (Nat.le_trans h (run_drawn_halt h1)))
    | split
end
theorem gup_elim {α : Type} {n : Nat} {o : Option α} {a : GStep} {f : α → GStep} (ha : GUp n a) (hf : ∀ x, GUp n (f x)) : GUp n (o.elim a f) := by
  cases o with
  | none => exact ha
  | some x => exact hf x
section
variable {p : Program} {n : Nat}
theorem early_up {fr : Frame} {callers : List Frame} {dying : Option Dying} {g : Nat} {w : World} (h : n ≤ w.drawn) : GUp n (early p fr callers dying g w) := by
  unfold early
  dsimp only
  repeat' first
    | trivial
    | exact h
    | (rename_i h1; have h2 := Nat.le_trans h (run_drawn_ok h1); exact h2)
    | split
  all_goals first
    | (rename_i h1 _ _ _; have h2 := Nat.le_trans h (run_drawn_ok h1); exact h2)
    | (rename_i h1 _ _ _ _; have h2 := Nat.le_trans h (run_drawn_ok h1); exact h2)
    | (rename_i h1 _ _; have h2 := Nat.le_trans h (run_drawn_ok h1); exact h2)
    | skip
theorem doReturn_up {main : Bool} {fr : Frame} {callers : List Frame} {dying : Option Dying} {v : Value} {w : World} (h : n ≤ w.drawn) : GUp n (doReturn p main fr callers dying v w) := by
  unfold doReturn
  dsimp only
  repeat' first
    | trivial
    | exact h
    | split
theorem callDeferred_up {fr : Frame} {callers : List Frame} {dying : Option Dying} {d : Deferred} {w : World} (h : n ≤ w.drawn) : GUp n (callDeferred p fr callers dying d w) := by
  unfold callDeferred
  simp only [Sem.runT_eq]
  refine iteInduction (motive := GUp n) (fun _ => trivial) (fun _ => gup_after ?_)
  have hd := run_drawn p (invoke d.target d.args) w
  revert hd
  generalize (invoke d.target d.args).run p w = r
  intro hd
  have hd' := Nat.le_trans h hd
  cases r with
  | ok x w' =>
    cases x <;> (try dsimp only)
    all_goals repeat' first | trivial | exact hd' | (rename_i h1; cases h1; first | done | exact hd' | exact endFatal_up hd' | exact endThrow_up hd') | split
  | halt x w' =>
    cases x <;> (try dsimp only)
    all_goals repeat' first | trivial | exact hd' | exact endFatal_up hd' | exact endThrow_up hd' | (rename_i h1; cases h1; first | done | exact hd' | exact endFatal_up hd' | exact endThrow_up hd') | split
theorem unwind_up {main : Bool} {fr : Frame} {callers : List Frame} {dying : Option Dying} {w : World} (h : n ≤ w.drawn) : GUp n (unwind p main fr callers dying w) := by
  unfold unwind
  simp only [Sem.runT_eq]
  repeat' first
    | trivial
    | exact h
    | exact callDeferred_up h
    | exact doReturn_up h
    | exact endPrinting_up h
    | (refine gup_after ?_)
    | (rename_i h1; exact doReturn_up (Nat.le_trans h (run_drawn_ok h1)))
    | (rename_i h1; exact Nat.le_trans h (run_drawn_ok h1))
    | split
theorem apply_up {fr : Frame} {callers : List Frame} {dying : Option Dying} {s : Sem Next} {w : World} {listen : Bool} (h : n ≤ w.drawn) : GUp n (stepG.apply p listen fr callers dying s w) := by
  have hd := run_drawn p s w
  have hr : (if listen = true then s.runT p w #[] else (s.run p w, #[])).1 = s.run p w := by
    split
    · exact Sem.runT_fst p s w #[]
    · rfl
  unfold stepG.apply
  dsimp only
  generalize (if listen = true then s.runT p w #[] else (s.run p w, #[])) = X at hr
  obtain ⟨r, es⟩ := X
  dsimp only at hr ⊢
  subst hr
  refine gup_after ?_
  revert hd
  generalize s.run p w = r
  intro hd
  have hd' := Nat.le_trans h hd
  cases r with
  | ok x w' =>
    cases x <;> (try dsimp only)
    all_goals repeat' first | trivial | exact hd' | exact endThrow_up hd' | split
  | halt x w' =>
    cases x <;> (try dsimp only)
    all_goals repeat' first | trivial | exact hd' | exact endFatal_up hd' | exact endThrow_up hd' | exact early_up hd' | (rename_i h1; cases h1; first | done | exact hd' | exact early_up hd') | split
theorem oper_up {fr : Frame} {callers : List Frame} {dying : Option Dying} {w : World} {listen : Bool} (h : n ≤ w.drawn) : GUp n (stepG.oper p listen fr callers dying w) := by
  unfold stepG.oper
  repeat' first
    | trivial
    | exact apply_up h
    | split
theorem exec_up {main : Bool} {fr : Frame} {callers : List Frame} {dying : Option Dying} {w : World} {listen : Bool} (h : n ≤ w.drawn) : GUp n (stepG.exec p main listen fr callers dying w) := by
  have leave : ∀ jump : Option Code, GUp n (match fr.roundOf with
      | none => if jump matches none | some .ret then GStep.go { frame := { fr with mode := .returning }, callers, status := .running, dying } w else .ended (.stuck "exit, goto: no such block or label" (fr.pos p)) w
      | some l =>
        let (r, es) := (Instr.endRound l jump).runT p w #[]
        GStep.after (seen p fr.fn es) <| match r with
        | .ok v w => doReturn p main fr callers dying v w
        | .halt _ w => .ended (.stuck "range over a function: no such loop" (fr.pos p)) w) := by
    intro jump
    simp only [Sem.runT_eq]
    repeat' first
      | trivial
      | exact h
      | (refine gup_after ?_)
      | (rename_i h1; exact doReturn_up (Nat.le_trans h (run_drawn_ok h1)))
      | split
  unfold stepG.exec
  dsimp only
  simp only [Sem.runT_eq] at leave ⊢
  split
  all_goals first
    | exact leave _
    | exact h
    | trivial
    | exact apply_up h
    | exact oper_up h
    | skip
  all_goals repeat' first
    | trivial
    | exact h
    | exact apply_up h
    | exact oper_up h
    | exact doReturn_up h
    | (refine gup_elim ?_ (fun _ => h))
    | exact gup_elim trivial (fun _ => apply_up h)
    | (refine apply_up ?_; exact Nat.le_trans h (run_drawn_ok (by assumption)))
    | (refine gup_after ?_)
    | (rename_i h1; exact doReturn_up (Nat.le_trans h (run_drawn_ok h1)))
    | (rename_i h1; exact apply_up (Nat.le_trans h (run_drawn_ok h1)))
    | (rename_i h1; have h2 := Nat.le_trans h (run_drawn_ok h1); exact h2)
    | (rename_i h1; have h2 := Nat.le_trans h (run_drawn_halt h1); exact h2)
    | split
theorem stepG_up {main : Bool} {g : Goroutine} {w : World} {listen : Bool} : GUp w.drawn (stepG p main g w listen) := by
  unfold stepG
  dsimp only
  split
  · exact die_up (Nat.le_refl _)
  · exact exec_up (Nat.le_refl _)
  · exact unwind_up (Nat.le_refl _)
end
/-! The machine. -/
section
variable {p : Program}
theorem communicate_drawn {rest : Rest} {gs : Array Goroutine} {i : Nat} {g : Goroutine} {cases : Array CommCase} {blocking : Bool} {shape : CommShape} {w : World} {m' : Machine} (h : (communicate p rest gs i g cases blocking shape w).1 = .next m') : w.drawn ≤ m'.world.drawn := by
  have hwait : ∀ w', waitingAt rest cases w = some w' → w'.drawn = w.drawn := by
    intro w' h
    unfold waitingAt at h
    repeat' first
      | (cases h; done)
      | (injection h with h; subst h; rfl)
      | split at h
  unfold communicate at h
  simp only [] at h
  split at h
  · cases h
  split at h
  · split at h
    · split at h
      · rename_i h1; injection h with h; subst h; exact Nat.le_of_eq (hwait _ h1).symm
      · cases h
    · injection h with h; subst h; exact Nat.le_refl _
  · split at h
    · cases h
    · rename_i h1
      have h2 := run_drawn_ok h1
      repeat' first
        | (cases h; done)
        | (injection h with h; subst h; exact h2)
        | (rename_i h3; injection h with h; subst h; have h4 := Nat.le_trans h2 (run_drawn_ok h3); exact h4)
        | (rename_i h3; injection h with h; subst h; have h4 := Nat.le_trans h2 (run_drawn_halt h3); exact h4)
        | split at h
theorem look_drawn {gs : Array Goroutine} {rest : Rest} {w : World} {m' : Machine} (h : look p gs rest w = .next m') : w.drawn ≤ m'.world.drawn := by
  unfold look at h
  simp only [] at h
  repeat' first
    | (cases h; done)
    | (rename_i h3; injection h with h; subst h; have h4 := run_drawn_ok h3; exact h4)
    | split at h
theorem drain_drawn (w : World) (c : Nat) : (drain w c).2.drawn = w.drawn := by unfold drain; split <;> rfl
theorem retime_drawn (m : Machine) (k : Nat) (t : Timer) (when period : Nat) : (retime m k t when period).2.world.drawn = m.world.drawn := by
  unfold retime
  cases t.chan with
  | none => rfl
  | some c => exact drain_drawn m.world c
theorem timerOp_drawn {m : Machine} {op : TimerOp} {r : Value × Machine} (h : timerOp m op = .ok r) : r.2.world.drawn = m.world.drawn := by
  have named : ∀ (m : Machine) var (f : Nat → Timer → Value × Machine) (d : Nat), (∀ k t, (f k t).2.world.drawn = d) → timerOp.named m var f = .ok r → r.2.world.drawn = d := by
    intro m var f d hf h
    unfold timerOp.named at h
    split at h
    · injection h with h; subst h; exact hf _ _
    · cases h
  have opened : ∀ var m', timerOp.opened m var = some m' → m'.world.drawn = m.world.drawn := by
    intro var m' h
    unfold timerOp.opened at h
    repeat' first
      | (cases h; done)
      | (injection h with h; subst h; rfl)
      | split at h
  unfold timerOp at h
  repeat' first
    | (cases h; done)
    | (injection h with h; subst h; rfl)
    | (exact named _ _ _ _ (fun k t => retime_drawn _ _ _ _ _) h)
    | (rename_i h1; exact named _ _ _ _ (fun k t => (retime_drawn _ _ _ _ _).trans (opened _ _ h1)) h)
    | split at h
theorem runT_drawn {m m' : Machine} {i : Nat} {b : Bool} (h : (runT p m i b).1 = .next m') : m.world.drawn ≤ m'.world.drawn := by
  simp only [runT] at h
  revert h
  generalize m.gs.swapAt! _ _ = gg
  have hs := stepG_up (p := p) (main := i == 0) (g := gg.1) (w := m.world) (listen := b)
  revert hs
  generalize stepG p _ gg.1 m.world b = s
  intro hs h
  cases s <;> simp only [] at h
  all_goals first
    | (exact Nat.le_trans hs (communicate_drawn h))
    | (exact Nat.le_trans hs (look_drawn h))
    | (repeat' first
        | (cases h; done)
        | (injection h with h; subst h; exact hs)
        | (rename_i h1; injection h with h; subst h; exact Nat.le_trans hs (Nat.le_of_eq (timerOp_drawn h1).symm))
        | split at h)
theorem serve_drawn {m m' : Machine} {k : Nat} (h : serve p m k = .next m') : m.world.drawn ≤ m'.world.drawn := by
  unfold serve at h
  simp only [] at h
  repeat' first
    | (cases h; done)
    | (injection h with h; subst h; exact Nat.le_refl _)
    | split at h
/-- A move that goes on has drawn no less. -/
def MUp (n : Nat) : Move → Prop
  | .goroutine m _ => n ≤ m.world.drawn
  | .machine (.next m) _ => n ≤ m.world.drawn
  | .machine (.ended ..) _ => True
theorem mup_serve {n : Nat} {m : Machine} {k : Nat} {ops : Array MemOp} (h : n ≤ m.world.drawn) : MUp n (.machine (serve p m k) ops) := by
  cases hs : serve p m k with
  | next m' => exact Nat.le_trans h (serve_drawn hs)
  | ended o w => trivial
theorem askOn_up {m : Machine} {n : Nat} (h : n ≤ m.world.drawn) : MUp n (askOn p m) := by
  unfold askOn
  dsimp only
  split
  · trivial
  · rename_i h1
    have h2 := Nat.le_trans h (run_drawn_ok h1)
    split
    · exact mup_serve h2
    · split
      · repeat' first
          | trivial
          | exact h2
          | split
      · split
        · split
          · trivial
          · rename_i h5
            have h6 := Nat.le_trans h2 (run_drawn_ok h5)
            split
            · exact h6
            · split
              · trivial
              · rename_i h7
                have h8 := Nat.le_trans h6 (run_drawn_ok h7)
                exact h8
        · split
          · trivial
          · rename_i h3
            have h4 := Nat.le_trans h2 (run_drawn_ok h3)
            split
            · trivial
            · rename_i h5
              have h6 := Nat.le_trans h4 (run_drawn_ok h5)
              split
              · exact h6
              · split
                · trivial
                · rename_i h7
                  have h8 := Nat.le_trans h6 (run_drawn_ok h7)
                  exact h8
          · rename_i h3
            have h4 := Nat.le_trans h2 (run_drawn_ok h3)
            exact h4
          · rename_i h3
            have h4 := Nat.le_trans h2 (run_drawn_ok h3)
            split
            · trivial
            · rename_i h5
              have h55 := run_drawn_ok h5
              have h6 := Nat.le_trans h4 h55
              split
              · exact h6
              · split
                · trivial
                · rename_i h7
                  have h8 := Nat.le_trans h6 (run_drawn_ok h7)
                  exact h8
theorem ask_up {m : Machine} : MUp m.world.drawn (ask p m) := by
  unfold ask
  split
  · split
    · trivial
    · rename_i h1
      have h2 := run_drawn_ok h1
      split
      · rename_i h3
        refine askOn_up ?_; exact Nat.le_trans h2 (look_drawn h3)
      · rename_i e h3 h4
        cases h4 : look p m.gs m.rest _ with
        | next m2 => first | exact absurd h4 (h3 m2) | exact Nat.le_trans h2 (look_drawn h4)
        | ended o w => trivial
    · rename_i h1 
      have h2 := run_drawn_ok h1
      refine askOn_up ?_; exact h2
  · exact askOn_up (Nat.le_refl _)
theorem move_up {m : Machine} : MUp m.world.drawn (move p m) := by
  unfold move
  repeat' first
    | trivial
    | exact Nat.le_refl _
    | exact ask_up
    | split
theorem step_drawn {m m' : Machine} (h : step p m = .next m') : m.world.drawn ≤ m'.world.drawn := by
  have hm := move_up (p := p) (m := m)
  unfold step stepT at h
  revert hm h
  cases move p m with
  | goroutine m1 i =>
    intro h hm
    have hm' : m.world.drawn ≤ m1.world.drawn := hm
    exact Nat.le_trans hm' (runT_drawn h)
  | machine s ops =>
    intro h hm
    have h' : s = .next m' := h
    subst h'
    exact hm
theorem runN_drawn : ∀ {n : Nat} {m m' : Machine}, runN p n m = .next m' → m.world.drawn ≤ m'.world.drawn := by
  intro n
  induction n with
  | zero => intro m m' h; simp only [runN, Stepped.next.injEq] at h; subst h; exact Nat.le_refl _
  | succ n ih =>
    intro m m' h
    simp only [runN] at h
    cases hs : step p m with
    | next m1 => rw [hs] at h; exact Nat.le_trans (step_drawn hs) (ih h)
    | ended o w => rw [hs] at h; cases h
theorem steps_drawn {m m' : Machine} (h : Steps p m m') : m.world.drawn ≤ m'.world.drawn := h.elim fun _ h => runN_drawn h
end
/-- What a call leaves has drawn no less. -/
theorem calls_drawn {P : Program} {f : FuncId} {args : Array Value} {w : World} {R : Ending → World → Prop} (h : Calls P f args w R) : Calls P f args w fun e w' => R e w' ∧ (∀ v, e = .returned v → w.drawn ≤ w'.drawn) := by
  intro cs
  obtain ⟨e, w', fr, hR, hc, h1, h2⟩ := h cs
  refine ⟨e, w', fr, ⟨hR, fun v hv => ?_⟩, hc, h1, h2⟩
  subst hv
  exact steps_drawn (p := P) hc
/-- A world that is elder in all its blocks is the elder one, grown and drawn. -/
theorem grown_of_below {w w' : World} (hb : Below w.heap.size w w') (hd : w.drawn ≤ w'.drawn) : ∃ q os, w' = Sort.grow (w.drewN q) os := by
  refine ⟨w'.drawn - w.drawn, w'.heap.extract w.heap.size w'.heap.size, ?_⟩
  have hh : w'.heap = w.heap ++ w'.heap.extract w.heap.size w'.heap.size := by
    apply Array.ext_getElem?
    intro i
    by_cases hi : i < w.heap.size
    · rw [Array.getElem?_append_left hi, hb.block i hi]
    · rw [Array.getElem?_append_right (by omega), Array.getElem?_extract]
      have hs := hb.size
      split
      · congr 1; omega
      · rw [Array.getElem?_eq_none (by omega)]
  obtain ⟨h1, h2, h3, h4, h5⟩ := w'
  obtain ⟨g1, g2, g3, g4, g5⟩ := w
  have e1 := hb.os; have e2 := hb.tape; have e3 := hb.output
  dsimp only at hh hd e1 e2 e3 ⊢
  subst e1 e2 e3
  simp only [Sort.grow, World.drewN]
  congr 1
  omega
end Go.Proofs.YtddiecdoaggaaaaGreatDoor
