/- The walks of ascii and msgid.Site: each call gives what the plain words say. -/
import Derived.Test.YtddiecdoaggaaaaGreatDoorBase
import Derived.Test.YtddiecdoaggaaaaGreatDoorPlainA
namespace Go.Proofs.YtddiecdoaggaaaaGreatDoor
open Go.RowKit

set_option maxHeartbeats 400000 in
theorem isDigit_any (c : Int) (w : World) :
    Calls Tryz.prog 53 #[.int .u8 c] w fun e w' => e = .returned (.bool (isDigit c)) ∧ w = w' := by
  by_cases h1 : 48 ≤ c <;> by_cases h2 : c ≤ 57 <;>
  · go_enter Tryz.func53, Tryz.ntmps53
    go_wp2
    go_ret
    exact ⟨by simp [isDigit, *] <;> omega, rfl⟩

set_option maxHeartbeats 400000 in
theorem isLower_any (c : Int) (w : World) :
    Calls Tryz.prog 52 #[.int .u8 c] w fun e w' => e = .returned (.bool (isLower c)) ∧ w = w' := by
  by_cases h1 : 97 ≤ c <;> by_cases h2 : c ≤ 122 <;>
  · go_enter Tryz.func52, Tryz.ntmps52
    go_wp2
    go_ret
    exact ⟨by simp [isLower, *] <;> omega, rfl⟩

set_option maxHeartbeats 400000 in
theorem permitted_any (c : Int) (w : World) :
    Calls Tryz.prog 50 #[.int .u8 c] w fun e w' => e = .returned (.bool (sitePermitted c)) ∧ w = w' := by
  go_enter Tryz.func50, Tryz.ntmps50
  go_wp2_with (first | (go_at_call 52; refine (isLower_any _ _).mono ?_; rintro e w' ⟨rfl, rfl⟩) | (go_at_call 53; refine (isDigit_any _ _).mono ?_; rintro e w' ⟨rfl, rfl⟩))
  all_goals (go_ret; exact ⟨by simp [sitePermitted, *], rfl⟩)

set_option maxHeartbeats 400000 in
theorem misplaced_any (s : ByteArray) (i : Nat) (w : World) (hs : s.size ≤ maxLen) (hi : i < s.size) :
    Calls Tryz.prog 51 #[.string s, .int .i64 i] w fun e w' => e = .returned (.bool (misplacedB s.data.toList i)) ∧ w = w' := by
  unfold maxLen at hs
  have e0 := at8_byte s i hi
  have H0 := Lib.hid e0; clear e0
  have hlen := len_data s
  have Hlen := Lib.hid hlen; clear hlen
  by_cases h0 : i = 0
  · subst h0
    go_enter Tryz.func51, Tryz.ntmps51
    go_wp2_with (first | (go_at_call 52; refine (isLower_any _ _).mono ?_; rintro e w' ⟨rfl, rfl⟩))
    go_ret
    refine ⟨?_, rfl⟩
    simp only [misplacedB, H0.out]; simp
  · have e1 := at8_byte s (i-1) (by omega)
    have H1 := Lib.hid e1; clear e1
    have hb : ((i : Int) == 0) = false := by simp; omega
    have hpos : 1 ≤ i := by omega
    go_enter Tryz.func51, Tryz.ntmps51
    go_wp2_with (first | (go_at_call 52; refine (isLower_any _ _).mono ?_; rintro e w' ⟨rfl, rfl⟩))
    all_goals (go_ret; refine ⟨ret_bool ?_, rfl⟩; simp only [misplacedB, H0.out, H1.out, Hlen.out, if_neg h0]; generalize s[i].toNat = c at *; generalize s[i-1].toNat = d at *; split <;> (apply Bool.eq_iff_iff.2; simp at * <;> omega))

theorem siteRes_empty {l : List UInt8} (h : l.length = 0) : siteRes l = (0, 4) := by unfold siteRes; rw [if_pos (List.eq_nil_of_length_eq_zero h)]
theorem siteRes_long {l : List UInt8} (h : 30 < l.length) : siteRes l = (30, 5) := by unfold siteRes; rw [if_neg (by intro e; rw [e] at h; simp at h), if_pos h]
theorem siteRes_bad {l : List UInt8} (h0 : 0 < l.length) (h1 : l.length ≤ 30) {k : Nat} (hk : k < l.length) (hb : sitePermitted (at8 l k) = false) (hl : ∀ j, j < k → sitePermitted (at8 l j) = true) : siteRes l = (k, 6) := by
  have e : firstIdx (fun i => !sitePermitted (at8 l i)) l.length = k := firstIdx_found hk (by simp [hb]) (fun j hj => by simp [hl j hj])
  unfold siteRes; rw [if_neg (by intro e; rw [e] at h0; simp at h0), if_neg (by omega), e, if_pos hk]
theorem siteRes_mis {l : List UInt8} (h0 : 0 < l.length) (h1 : l.length ≤ 30) (hl : ∀ j, j < l.length → sitePermitted (at8 l j) = true) {k : Nat} (hk : k < l.length) (hb : misplacedB l k = true) (hl' : ∀ j, j < k → misplacedB l j = false) : siteRes l = (k, 12) := by
  have e : firstIdx (fun i => !sitePermitted (at8 l i)) l.length = l.length := firstIdx_none (fun j hj => by simp [hl j hj])
  unfold siteRes; rw [if_neg (by intro e; rw [e] at h0; simp at h0), if_neg (by omega), e, if_neg (by omega), firstIdx_found hk hb hl', if_pos hk]
theorem siteRes_ok {l : List UInt8} (h0 : 0 < l.length) (h1 : l.length ≤ 30) (hl : ∀ j, j < l.length → sitePermitted (at8 l j) = true) (hl' : ∀ j, j < l.length → misplacedB l j = false) : siteRes l = (0, 0) := by
  have e : firstIdx (fun i => !sitePermitted (at8 l i)) l.length = l.length := firstIdx_none (fun j hj => by simp [hl j hj])
  unfold siteRes; rw [if_neg (by intro e; rw [e] at h0; simp at h0), if_neg (by omega), e, if_neg (by omega), firstIdx_none hl', if_neg (by omega)]
theorem all_snoc {p : Nat → Prop} {k : Nat} (h : ∀ j, j < k → p j) (hk : p k) : ∀ j, j < k + 1 → p j := fun j hj => by
  rcases Nat.lt_succ_iff_lt_or_eq.1 hj with h1 | h1
  · exact h j h1
  · rw [h1]; exact hk

set_option maxHeartbeats 2000000 in
theorem Site_any (s : ByteArray) (w : World) (hs : s.size ≤ maxLen) :
    Calls Tryz.prog 33 #[.string s] w fun e w' => e = .returned (.tuple #[.int .i64 (siteRes s.data.toList).1, .int .i64 (siteRes s.data.toList).2]) ∧ w = w' := by
  unfold maxLen at hs
  have hlen := len_data s
  by_cases hemp : s.size = 0
  · have h1 := isEmpty_of_size hemp
    rw [siteRes_empty (by omega)]; clear hlen hemp
    go_enter Tryz.func33, Tryz.ntmps33
    go_wp2
    go_ret2
    exact ⟨rfl, rfl⟩
  have h1 := isEmpty_of_pos (s := s) (by omega)
  by_cases hlong : 30 < s.size
  · rw [siteRes_long (by omega)]; clear hlen
    have h3 : (30 : Int) < s.size := by omega
    go_enter Tryz.func33, Tryz.ntmps33
    go_wp2
    go_ret2
    exact ⟨rfl, rfl⟩
  have h3 : ¬ (30 : Int) < s.size := by omega
  have h4 : decide ((30 : Int) < s.size) = false := by simp; omega
  have Hlen := Lib.hid hlen
  have hpos : 1 ≤ s.size := by omega
  clear hlen hemp
  go_enter Tryz.func33, Tryz.ntmps33
  go_wp2
  go_loop [15] (fun i => ∃ k : Nat, k ≤ s.size ∧ i = .int .i64 k ∧ Hid (∀ j, j < k → sitePermitted (at8 s.data.toList j) = true)) (fun i => s.size - (intOf i).toNat)
  case atStart => exact ⟨0, by omega, rfl, Lib.hid (by omega)⟩
  case round =>
    obtain ⟨k, hk, rfl, Hall⟩ := hrel
    by_cases hlt : k < s.size
    · have H0 := Lib.hid (at8_byte s k hlt)
      rcases hp : sitePermitted (at8 s.data.toList k) with _ | _
      · have hp' : sitePermitted s[k].toNat = false := by rw [← H0.out]; exact hp
        have Hp := Lib.hid hp; clear hp
        go_wp2_with (go_at_call 50; refine (permitted_any _ _).mono ?_; rintro e w' ⟨rfl, rfl⟩)
        go_ret2
        rw [siteRes_bad (by rw [Hlen.out]; omega) (by rw [Hlen.out]; omega) (by rw [Hlen.out]; omega) Hp.out Hall.out]
        exact ⟨rfl, rfl⟩
      · have hp' : sitePermitted s[k].toNat = true := by rw [← H0.out]; exact hp
        have Hp := Lib.hid hp; clear hp
        go_wp2_with (go_at_call 50; refine (permitted_any _ _).mono ?_; rintro e w' ⟨rfl, rfl⟩)
        go_round
        case rel => exact ⟨k + 1, by omega, by go_num, Lib.hid (all_snoc Hall.out Hp.out)⟩
        case measure => simp [intOf]; omega
    · go_wp2
      go_loop [27] (fun i => ∃ k : Nat, k ≤ s.size ∧ i = .int .i64 k ∧ Hid (∀ j, j < k → misplacedB s.data.toList j = false)) (fun i => s.size - (intOf i).toNat)
      case atStart => exact ⟨0, by omega, rfl, Lib.hid (by omega)⟩
      case round =>
        obtain ⟨i, hi, rfl, Hmis⟩ := hrel
        have hk2 : k = s.size := by omega
        have Hk2 := Lib.hid hk2; clear hk2
        by_cases hlt2 : i < s.size
        · rcases hp : misplacedB s.data.toList i with _ | _
          · have Hp := Lib.hid hp
            go_wp2_with (go_at_call 51; refine (misplaced_any _ _ _ (by unfold maxLen; omega) hlt2).mono ?_; rintro e w' ⟨rfl, rfl⟩)
            go_round
            case rel => exact ⟨i + 1, by omega, by go_num, Lib.hid (all_snoc Hmis.out Hp.out)⟩
            case measure => simp [intOf]; omega
          · have Hp := Lib.hid hp
            go_wp2_with (go_at_call 51; refine (misplaced_any _ _ _ (by unfold maxLen; omega) hlt2).mono ?_; rintro e w' ⟨rfl, rfl⟩)
            go_ret2
            rw [siteRes_mis (by rw [Hlen.out]; omega) (by rw [Hlen.out]; omega) (by rw [Hlen.out, ← Hk2.out]; exact Hall.out) (by rw [Hlen.out]; omega) Hp.out Hmis.out]
            exact ⟨rfl, rfl⟩
        · go_wp2
          go_ret2
          have hi2 : i = s.size := by omega
          rw [siteRes_ok (by rw [Hlen.out]; omega) (by rw [Hlen.out]; omega) (by rw [Hlen.out, ← Hk2.out]; exact Hall.out) (by rw [Hlen.out, ← hi2]; exact Hmis.out)]
          exact ⟨rfl, rfl⟩

end Go.Proofs.YtddiecdoaggaaaaGreatDoor
