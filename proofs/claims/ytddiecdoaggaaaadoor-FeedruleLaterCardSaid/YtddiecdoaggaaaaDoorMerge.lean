/- The engine: parts of memory joined into one, and parts of which less is kept in mind. No program. -/
import Derived.Test.YtddiecdoaggaaaaDoorSlice
namespace Go.Proofs.YtddiecdoaggaaaaDoor
open Go.RowKit

/-- Two parts as one. -/
def pairO (a b : Own) : Own := ⟨fun k => a.foot k ∨ b.foot k, a.old, fun w => a.p w ∧ b.p w, fun w w' h hp => ⟨a.loc w w' (fun k hk => h k (.inl hk)) hp.1, b.loc w w' (fun k hk => h k (.inr hk)) hp.2⟩⟩
/-- What is known of some blocks. -/
def fct (foot : Nat → Prop) (p : World → Prop) (loc : ∀ w w' : World, (∀ b, foot b → w'.heap[b]? = w.heap[b]?) → p w → p w') : Own := ⟨foot, false, p, loc⟩
section
variable {r w : World}
theorem Sat.both {A B C : List Own} {a b : Own} (h : Sat r (A ++ a :: (B ++ b :: C)) w) (ha : a.old = false) (hb : b.old = false) : Sat r (A ++ pairO a b :: (B ++ C)) w := by
  have hm : ∀ o, o ∈ A ++ pairO a b :: (B ++ C) → o = pairO a b ∨ o ∈ A ∨ o ∈ B ∨ o ∈ C := by
    intro o ho
    simp only [List.mem_append, List.mem_cons] at ho
    rcases ho with h | h | h | h
    · exact .inr (.inl h)
    · exact .inl h
    · exact .inr (.inr (.inl h))
    · exact .inr (.inr (.inr h))
  have hA : ∀ o, (o ∈ A ∨ o = a ∨ o ∈ B ∨ o = b ∨ o ∈ C) → o ∈ A ++ a :: (B ++ b :: C) := by
    intro o ho
    simp only [List.mem_append, List.mem_cons]
    rcases ho with h | h | h | h | h
    · exact .inl h
    · exact .inr (.inl h)
    · exact .inr (.inr (.inl h))
    · exact .inr (.inr (.inr (.inl h)))
    · exact .inr (.inr (.inr (.inr h)))
  have ha' := h.all a (hA a (.inr (.inl rfl)))
  have hb' := h.all b (hA b (.inr (.inr (.inr (.inl rfl)))))
  refine ⟨h.os, h.tape, h.output, h.size, fun k hk hh => h.agree k hk fun o ho hold => ?_, fun o ho => ?_, ?_⟩
  · simp only [List.mem_append, List.mem_cons] at ho
    rcases ho with h1 | rfl | h1 | rfl | h1
    · exact hh o (by simp [h1]) hold
    · rw [ha] at hold; cases hold
    · exact hh o (by simp [h1]) hold
    · rw [hb] at hold; cases hold
    · exact hh o (by simp [h1]) hold
  · rcases hm o ho with rfl | h1 | h1 | h1
    · refine ⟨⟨ha'.1, hb'.1⟩, fun k hk => ?_⟩
      rcases hk with hk | hk
      · exact ⟨(ha'.2 k hk).1, fun _ => (ha'.2 k hk).2 ha⟩
      · exact ⟨(hb'.2 k hk).1, fun _ => (hb'.2 k hk).2 hb⟩
    · exact h.all o (hA o (.inl h1))
    · exact h.all o (hA o (.inr (.inr (.inl h1))))
    · exact h.all o (hA o (.inr (.inr (.inr (.inr h1)))))
  · have hd := h.disj
    rw [List.pairwise_append] at hd ⊢
    obtain ⟨d1, d2, d3⟩ := hd
    rw [List.pairwise_cons] at d2
    obtain ⟨d4, d5⟩ := d2
    rw [List.pairwise_append] at d5
    obtain ⟨d6, d7, d8⟩ := d5
    rw [List.pairwise_cons] at d7
    obtain ⟨d9, d10⟩ := d7
    refine ⟨d1, ?_, ?_⟩
    · rw [List.pairwise_cons]
      refine ⟨fun o ho k hk => ?_, ?_⟩
      · rcases List.mem_append.1 ho with ho | ho
        · rcases hk.1 with h1 | h1
          · exact d4 o (by simp [ho]) k ⟨h1, hk.2⟩
          · exact d8 o ho b (by simp) k ⟨hk.2, h1⟩
        · rcases hk.1 with h1 | h1
          · exact d4 o (by simp [ho]) k ⟨h1, hk.2⟩
          · exact d9 o ho k ⟨h1, hk.2⟩
      · rw [List.pairwise_append]
        exact ⟨d6, d10, fun x hx y hy => d8 x hx y (by simp [hy])⟩
    · intro x hx y hy k hk
      rcases List.mem_cons.1 hy with rfl | hy
      · rcases hk.2 with h1 | h1
        · exact d3 x hx a (by simp) k ⟨hk.1, h1⟩
        · exact d3 x hx b (by simp) k ⟨hk.1, h1⟩
      · rcases List.mem_append.1 hy with hy | hy
        · exact d3 x hx y (by simp [hy]) k hk
        · exact d3 x hx y (by simp [hy]) k hk
/-- Of a part less is kept in mind. -/
theorem Sat.weak {A C : List Own} {a b : Own} (h : Sat r (A ++ a :: C) w) (ha : a.old = false) (hb : b.old = false) (hf : ∀ k, b.foot k → a.foot k) (hp : a.p w → b.p w) : Sat r (A ++ b :: C) w := by
  have hmem : a ∈ A ++ a :: C := by simp
  have ha' := h.all a hmem
  refine ⟨h.os, h.tape, h.output, h.size, fun k hk hh => h.agree k hk fun o ho hold => ?_, fun o ho => ?_, ?_⟩
  · simp only [List.mem_append, List.mem_cons] at ho
    rcases ho with h1 | rfl | h1
    · exact hh o (by simp [h1]) hold
    · rw [ha] at hold; cases hold
    · exact hh o (by simp [h1]) hold
  · simp only [List.mem_append, List.mem_cons] at ho
    rcases ho with h1 | rfl | h1
    · exact h.all o (by simp [h1])
    · exact ⟨hp ha'.1, fun k hk => ⟨(ha'.2 k (hf k hk)).1, fun _ => (ha'.2 k (hf k hk)).2 ha⟩⟩
    · exact h.all o (by simp [h1])
  · have hd := h.disj
    rw [List.pairwise_append, List.pairwise_cons] at hd ⊢
    obtain ⟨d1, ⟨d2, d3⟩, d4⟩ := hd
    refine ⟨d1, ⟨fun o ho k hk => d2 o ho k ⟨hf k hk.1, hk.2⟩, d3⟩, fun x hx y hy k hk => ?_⟩
    rcases List.mem_cons.1 hy with rfl | hy
    · exact d4 x hx a (by simp) k ⟨hk.1, hf k hk.2⟩
    · exact d4 x hx y (by simp [hy]) k hk
end
section
variable {N : Nat} {env : Env} {r : World} {F : Act → World → Prop}
theorem k_both {A B C : List Own} {a b : Own} (ha : a.old = false) (hb : b.old = false) (h : K N env r (A ++ pairO a b :: (B ++ C)) F) : K N env r (A ++ a :: (B ++ b :: C)) F := fun w hw => h w (hw.both ha hb)
theorem k_weak {A C : List Own} {a : Own} (b : Own) (ha : a.old = false) (hb : b.old = false) (hf : ∀ k, b.foot k → a.foot k) (hp : ∀ w, a.p w → b.p w) (h : K N env r (A ++ b :: C) F) : K N env r (A ++ a :: C) F := fun w hw => h w (hw.weak ha hb hf (hp w))
/-- An empty part may always be had. -/
theorem k_fct0 {O : List Own} (p : World → Prop) (foot : Nat → Prop) (loc : ∀ w w' : World, (∀ b, foot b → w'.heap[b]? = w.heap[b]?) → p w → p w') (hf : ∀ k, ¬ foot k) (hp : ∀ w, p w) (h : K N env r (fct foot p loc :: O) F) : K N env r O F := fun w hw =>
  h w (hw.add (Below.refl _ _) (hp w) (fun b hb => absurd hb (hf b)) rfl)
end
/-- A struct or an array within a block, told. -/
theorem ov_partE {P : Program} {env : Env} {r w : World} {O : List Own} {f : Bool} {b o n : Nat} {cs c : List Value} {t t0 : TypeId} {x : Operand} [TSize P t n] [TAgg P t true] (i : Nat) (hw : Sat r O w) (hx : evx env x = some (.pointer (some ⟨b, o, none⟩))) (hO : nthO O i = some (bk f b cs t0)) (hn : o + n ≤ cs.length) (he : (cs.drop o).take n = c) : OV P env (.load t x) w (.agg c.toArray) := by
  subst he; exact ov_ownPart i hw inferInstance hx hO hn
/-- A slice of the call's own that holds something. -/
theorem k_rowsome {N : Nat} {env : Env} {r : World} {O : List Own} {F : Act → World → Prop} (i : Nat) {f : Bool} {v : Value} {n : Nat} {xs : List Value} {e : TypeId} {sz : Nat} (hn : 0 < n) (hO : nthO O i = some (row f v n xs e sz)) (h : ∀ g cap, v = .slice (some ⟨g, 0, none⟩) n cap → n ≤ cap → K N env r O F) : K N env r O F := by
  intro w hw
  rcases (hw.row i hO).2 with ⟨_, h3⟩ | ⟨g, cap, cur, h3, _, _, h4, _⟩
  · omega
  · exact h g cap h3 h4 w hw
end Go.Proofs.YtddiecdoaggaaaaDoor
