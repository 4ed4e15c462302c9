/- The walk of distribution; Contains and Clone over strings in memory. -/
import Derived.Test.YtddiecdoaggaaaaGreatDoorMsgid
import Derived.Test.YtddiecdoaggaaaaGreatDoorWildL
import Derived.Test.YtddiecdoaggaaaaGreatDoorStrs
import Derived.Test.YtddiecdoaggaaaaGreatDoorEngMore
namespace Go.Proofs.YtddiecdoaggaaaaGreatDoor
open Go.RowKit

def okc (c : Int) : Bool := isLower c || isDigit c || decide (c = 45)
/-- Is it a distribution? -/
def distP (l : List UInt8) : Bool := l.all (fun c => okc c.toNat) && !l.isEmpty && decide (l.length ≤ 20)
theorem distP_no {s : ByteArray} {k : Nat} (h : k < s.size) (hc : okc s[k].toNat = false) : distP s.data.toList = false := by
  have : s.data.toList.all (fun c => okc c.toNat) = false := by
    rw [List.all_eq_false]
    exact ⟨s[k], by show s.data[k]'h ∈ _; simp, by simp [hc]⟩
  unfold distP; rw [this]; rfl
theorem distP_yes {s : ByteArray} (h : ∀ j (hj : j < s.size), okc s[j].toNat = true) : distP s.data.toList = (!s.data.toList.isEmpty && decide (s.size ≤ 20)) := by
  have : s.data.toList.all (fun c => okc c.toNat) = true := by
    rw [List.all_eq_true]
    intro x hx
    obtain ⟨i, hi, rfl⟩ := List.getElem_of_mem hx
    have := h i (by simpa using hi)
    exact this
  unfold distP; rw [this, len_data]; simp

attribute [local irreducible] J OV EV EU Blk wpList Code.wp bodyPost Exit.then Exit.inBlock Round Left Hid JS wpStill
attribute [local irreducible] isLower isDigit distP
set_option maxHeartbeats 800000 in
theorem distribution_any (s : ByteArray) (w : World) (hs : s.size ≤ 9223372036854775807) : Calls Tryz.prog 34 #[.string s] w fun e w' => e = .returned (.bool (distP s.data.toList)) ∧ w = w' := by
  refine j_enter (N := 35) Tryz.func34 rfl rfl rfl ?_
  refine jwalk ?_
  refine j_loop (σ := Nat) (fun k => [(0, .string s), (5, .int .i64 s.size), (6, .int .i64 k)]) (fun k w' => k ≤ s.size ∧ (∀ j (hj : j < s.size), j < k → okc s[j].toNat = true) ∧ w = w') (fun k => s.size - k) 0 (Sub.cons rfl (Sub.cons rfl (Sub.cons rfl Sub.nil))) ⟨Nat.zero_le _, fun j _ h => by omega, rfl⟩ ?_
  rintro k w2 ⟨hk, hall, rfl⟩
  by_cases hlt : k < s.size
  · refine jwalk ?_
    have hnext : okc s[k].toNat = true → ∀ j (hj : j < s.size), j < k + 1 → okc s[j].toNat = true := fun h j hj hjk => by
      rcases Nat.lt_succ_iff_lt_or_eq.1 hjk with h1 | h1
      · exact hall j hj h1
      · subst h1; exact h
    have hstop : okc s[k].toNat = false → distP s.data.toList = false := distP_no hlt
    unfold okc at hnext hstop
    refine j_call (by kernel_rfl) rfl rfl (isLower_any s[k].toNat w) ?_
    rintro e w3 ⟨rfl, rfl⟩
    refine ⟨_, rfl, ?_⟩
    cases h1 : isLower s[k].toNat with
    | true =>
      refine jwalk ?_
      refine j_round (k + 1) (Sub.cons rfl (Sub.cons rfl (Sub.cons rfl Sub.nil))) ⟨by omega, hnext (by rw [h1]; rfl), rfl⟩ (by omega)
    | false =>
      refine jwalk ?_
      refine j_call (by kernel_rfl) rfl rfl (isDigit_any s[k].toNat w) ?_
      rintro e w3 ⟨rfl, rfl⟩
      refine ⟨_, rfl, ?_⟩
      cases h2 : isDigit s[k].toNat with
      | true =>
        refine jwalk ?_
        refine j_round (k + 1) (Sub.cons rfl (Sub.cons rfl (Sub.cons rfl Sub.nil))) ⟨by omega, hnext (by rw [h1, h2]; rfl), rfl⟩ (by omega)
      | false =>
        by_cases h3 : s[k].toNat = 45
        · refine jwalk ?_
          refine j_round (k + 1) (Sub.cons rfl (Sub.cons rfl (Sub.cons rfl Sub.nil))) ⟨by omega, hnext (by rw [h1, h2]; simp; omega), rfl⟩ (by omega)
        · refine jwalk ?_
          refine j_ret1 rfl rfl ⟨?_, rfl⟩
          rw [hstop (by rw [h1, h2]; simp; omega)]
  · have hd := distP_yes (s := s) (fun j hj => hall j hj (by omega))
    by_cases h0 : s = ⟨#[]⟩
    · refine jwalk ?_
      refine j_ret1 rfl rfl ⟨?_, rfl⟩
      rw [hd, h0]; rfl
    · have h1 : s.data.toList.isEmpty = false := by
        cases s with | mk d =>
          cases d with | mk l =>
            cases l with
            | nil => exact absurd rfl h0
            | cons a l => rfl
      by_cases h20 : s.size ≤ 20
      · refine jwalk ?_
        refine j_ret1 rfl rfl ⟨?_, rfl⟩
        rw [hd, h1]; simp [h20]
      · refine jwalk ?_
        refine j_ret1 rfl rfl ⟨?_, rfl⟩
        rw [hd, h1]; simp [h20]

theorem StrsAt.take {w : World} {v : Value} {l : List ByteArray} (h : StrsAt w v l) (i : Nat) (hi : i ≤ l.length) : ∃ ea cap, v = .slice ea l.length cap ∧ StrsAt w (.slice ea i cap) (l.take i) := by
  obtain ⟨ea, cap, rfl, hl, hc⟩ := h
  refine ⟨ea, cap, rfl, ea, cap, by rw [List.length_take, Nat.min_eq_left hi], ⟨by have := hl.1; rw [List.length_take]; omega, hl.2⟩, fun j s hj => hc j s ?_⟩
  rw [List.getElem?_take] at hj
  split at hj
  · exact hj
  · cases hj
theorem contains_any (v : Value) (l : List ByteArray) (x : ByteArray) (w : World) (h : StrsAt w v l) (hn : l.length ≤ 2000000) : Calls Tryz.prog 35 #[v, .string x] w fun e w' => e = .returned (.bool (Lib.containsS l x)) ∧ w = w' := by
  obtain ⟨ea, cap, rfl, hl, hc⟩ := h
  cases hcase : l with
  | nil =>
    subst hcase
    exact (Tryz.slices_Contains_string_empty ea cap x w).mono fun e w' ⟨h1, h2⟩ => ⟨by rw [h1]; rfl, h2.symm⟩
  | cons y l' =>
    rw [← hcase]
    have hpos : 0 < l.length := by rw [hcase]; simp
    obtain ⟨b, o, rfl, _⟩ := hc 0 l[0] (by simp [hpos])
    refine (Tryz.slices_Contains_string b o l.length cap l x w (Nat.le_refl _) (by omega) (fun j hj => ?_)).mono fun e w' ⟨h1, h2⟩ => ⟨?_, h2.symm⟩
    · obtain ⟨b', o', he, h2⟩ := hc j l[j] (by simp [hj])
      cases he
      rw [h2]; simp [List.getD, hj]
    · rw [h1, List.take_length]
theorem clone_any (v : Value) (l : List ByteArray) (w : World) (h : StrsAt w v l) (hn : l.length ≤ 2000000) : Calls Tryz.prog 12 #[v] w fun e w' => ∃ v', e = .returned v' ∧ w'.ownsRow w.heap.size 9 1 v' l.length (l.map Value.string) ∧ Below w.heap.size w w' := by
  obtain ⟨ea, cap, rfl, hl, hc⟩ := h
  cases hcase : l with
  | nil =>
    subst hcase
    cases ea with
    | none => exact (Tryz.slices_Clone_string_nil 0 cap w).mono fun e w' ⟨h1, h2⟩ => ⟨_, h1, h2 ▸ own_none _ _ _ _, h2 ▸ Below.refl _ _⟩
    | some a => exact (Tryz.slices_Clone_string_zero a cap w).mono fun e w' ⟨v', h1, h2, _, h3⟩ => ⟨v', h1, h2, h3⟩
  | cons y l' =>
    rw [← hcase]
    have hpos : 0 < l.length := by rw [hcase]; simp
    obtain ⟨b, o, rfl, _⟩ := hc 0 l[0] (by simp [hpos])
    refine (Tryz.slices_Clone_string b o l.length cap l w (Nat.le_refl _) (by omega) (fun j hj => ?_)).mono fun e w' ⟨v', h1, h2, _, h3⟩ => ⟨v', h1, ?_, h3⟩
    · obtain ⟨b', o', he, h2⟩ := hc j l[j] (by simp [hj])
      cases he
      rw [h2]; simp [List.getD, hj]
    · rw [List.take_length] at h2; exact h2
end Go.Proofs.YtddiecdoaggaaaaGreatDoor
