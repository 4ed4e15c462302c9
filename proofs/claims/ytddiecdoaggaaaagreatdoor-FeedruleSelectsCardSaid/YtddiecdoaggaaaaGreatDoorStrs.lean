/- Slices of strings in memory. No program. -/
import Derived.Test.YtddiecdoaggaaaaGreatDoorEngHeld
namespace Go.Proofs.YtddiecdoaggaaaaGreatDoor
open Go.RowKit

/-- The slice v holds the strings l. -/
def StrsAt (w : World) (v : Value) (l : List ByteArray) : Prop := ∃ ea cap, v = .slice ea l.length cap ∧ (l.length ≤ cap ∧ ∀ a, ea = some a → a.block < w.heap.size) ∧ ∀ i s, l[i]? = some s → ∃ b o, ea = some ⟨b, o, none⟩ ∧ w.cell? ⟨b, o + i, none⟩ = some (.string s)
theorem StrsAt.keep {w w' : World} {v : Value} {l : List ByteArray} {row : Option Nat} (h : StrsAt w v l) (hg : w.grownBy w' row) (hr : v.ownBlock = none ∨ v.ownBlock ≠ row) : StrsAt w' v l := by
  obtain ⟨ea, cap, rfl, hl, hc⟩ := h
  refine ⟨ea, cap, rfl, ⟨hl.1, fun a ha => Nat.lt_of_lt_of_le (hl.2 a ha) hg.size⟩, fun i s hi => ?_⟩
  obtain ⟨b, o, rfl, h2⟩ := hc i s hi
  exact ⟨b, o, rfl, cell_grown hg h2 (by simpa [Value.ownBlock] using hr)⟩
theorem StrsAt.ext {w w' : World} {v : Value} {l : List ByteArray} (h : StrsAt w v l) (hb : Below w.heap.size w w') : StrsAt w' v l :=
  h.keep (row := none) (grownBy_of_below hb) (by cases v.ownBlock <;> simp)
theorem strs_of_row {w : World} {base : Nat} {v : Value} {l : List ByteArray} (h : w.ownsRow base 9 1 v l.length (l.map Value.string)) : StrsAt w v l := by
  rcases h.2 with ⟨rfl, h0⟩ | ⟨g, cap, cur, rfl, _, hg, hc, _, hs, ht⟩
  · have : l = [] := List.eq_nil_of_length_eq_zero h0
    subst this
    exact ⟨none, 0, rfl, by simp, by simp⟩
  · refine ⟨some ⟨g, 0, none⟩, cap, rfl, ⟨hc, fun a ha => by cases ha; exact (Array.getElem?_eq_some_iff.1 hg).1⟩, fun i s hi => ⟨g, 0, rfl, ?_⟩⟩
    have hlt : i < l.length := (List.getElem?_eq_some_iff.1 hi).1
    have h1 : (l.map Value.string)[i]? = some (.string s) := by simp [hi]
    rw [← ht] at h1
    rw [List.getElem?_take_of_lt (by omega)] at h1
    simp [World.cell?, hg]
    simpa using h1
end Go.Proofs.YtddiecdoaggaaaaGreatDoor
