/- Slices of an argument with their room: what is known of a slice within a slice. No program. -/
import Derived.Test.YtddiecdoaggaaaaDoorTopW
import Derived.Test.YtddiecdoaggaaaaDoorSortK
import Derived.Test.YtddiecdoaggaaaaDoorSlice
namespace Go.Proofs.YtddiecdoaggaaaaDoor
open Go.ChangeShapes Go.WideShapes Go.ChangeAt Go.RowKit
variable {H : Type} {enc : TypeId × Value → H} {P : Program} {W : World} {t : TypeId}
def RowN (w : World) (v : Value) (sz : Nat) (xs : List (List Value)) : Prop := ∃ ea cap, v = .slice ea xs.length cap ∧ xs.length ≤ cap ∧ (ea = none → cap = 0) ∧ ∀ i c, xs[i]? = some c → ∃ b o, ea = some ⟨b, o, none⟩ ∧ ∀ j u, c[j]? = some u → w.cell? ⟨b, o + i * sz + j, none⟩ = some u
theorem wdec_sliceN {et : TypeId} {sz : Nat} {α : Type} {e : α → List Value} {ok : α → Prop} (ht : P.underlying t = some (.slice et)) (hsz : P.cellsOf et = sz) (h0 : 0 < sz) (h : DecW enc P W et e ok) :
    DecW enc P W t (fun c : Value × List α => [c.1]) (fun c => RowN W c.1 sz (c.2.map e) ∧ (∀ x ∈ c.2, ok x) ∧ c.2.length ≤ maxLen) := by
  intro n cs y hy hb
  have hy0 := hy
  obtain ⟨⟨v, l⟩, ⟨⟨ea, cap, hv, hc⟩, h2, h3⟩, he⟩ := wdec_slice ht hsz h0 h n cs y hy hb
  have key : (l.map e).length ≤ cap ∧ (ea = none → cap = 0) := by
    dsimp only at hv he
    subst hv
    rcases Deep.open_slice ht hy0 with ⟨rfl, _⟩ | ⟨a, len, cap', m, n', D, Pl, rfl, _, hlc, hm, hmm, hyx, hi⟩
    · injection (List.cons.inj he).1 with e1 e2 e3
      omega
    · injection (List.cons.inj he).1 with e1 e2 e3
      exact ⟨by omega, fun h => by rw [h] at e1; cases e1⟩
  exact ⟨(v, l), ⟨⟨ea, cap, hv, key.1, key.2, hc⟩, h2, h3⟩, he⟩
theorem rowIs_of_rowN {α : Type} {f : α → List Value} {w : World} {v : Value} {sz : Nat} {l : List α} (h : RowN w v sz (l.map f)) (hk : ∀ x, (f x).length = sz) (h0 : 0 < sz) : ∃ ea cap, v = .slice ea l.length cap ∧ RowIs w ea l.length cap sz (l.flatMap f) := by
  obtain ⟨ea, cap, hv, h1, h2, h3⟩ := h
  rw [List.length_map] at hv h1
  refine ⟨ea, cap, hv, h1, h2, len_flat hk l, fun j u hj => ?_⟩
  have hlt : j < l.length * sz := by rw [← len_flat hk l]; exact (List.getElem?_eq_some_iff.1 hj).1
  rw [get_flat h0 hk l j hlt] at hj
  obtain ⟨x, hx, hu⟩ := Option.bind_eq_some_iff.1 hj
  obtain ⟨b, o, he, hc⟩ := h3 (j / sz) (f x) (by rw [List.getElem?_map, hx]; rfl)
  refine ⟨_, he, ?_⟩
  have := hc (j % sz) u hu
  rw [addr_add]
  rw [← this]
  congr 2
  have := Nat.div_add_mod j sz
  rw [Nat.mul_comm] at this
  omega
end Go.Proofs.YtddiecdoaggaaaaDoor
