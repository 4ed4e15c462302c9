/- The walks of wildmat's small functions. -/
import Derived.Test.YtddiecdoaggaaaaGreatDoorBase
import Derived.Test.YtddiecdoaggaaaaGreatDoorPlainW
import Derived.Test.YtddiecdoaggaaaaGreatDoorShelf
namespace Go.Proofs.YtddiecdoaggaaaaGreatDoor
open Go.RowKit

theorem u8_back (c : UInt8) : ((c.toNat : Int)).toNat.toUInt8 = c := by simp

theorem indexByte_any (s : ByteArray) (c : UInt8) (w : World) :
    Calls Tryz.prog 80 #[.string s, .int .u8 c.toNat] w fun e w' => e = .returned (.int .i64 (Lib.indexByte s.data.toList c)) ∧ w = w' :=
  (Tryz.strings_IndexByte s c.toNat w).mono fun _ _ ⟨h, h'⟩ => ⟨by rw [u8_back] at h; exact h, h'.symm⟩

theorem idxChars_any (c : UInt8) (w : World) :
    Calls Tryz.prog 80 #[.string { data := #[43, 45, 46, 48, 49, 50, 51, 52, 53, 54, 55, 56, 57, 95, 97, 98, 99, 100, 101, 102, 103, 104, 105, 106, 107, 108, 109, 110, 111, 112, 113, 114, 115, 116, 117, 118, 119, 120, 121, 122] }, .int .u8 c.toNat] w fun e w' => e = .returned (.int .i64 (charIdx c)) ∧ w = w' :=
  indexByte_any _ c w

set_option maxHeartbeats 400000 in
theorem named_any (c : UInt8) (w : World) :
    Calls Tryz.prog 57 #[.int .u8 c.toNat] w fun e w' => e = .returned (.bool (namedB c)) ∧ w = w' := by
  go_enter Tryz.func57, Tryz.ntmps57
  go_wp2_with (go_at_call 80; refine (idxChars_any _ _).mono ?_; rintro e w' ⟨rfl, rfl⟩)
  go_ret
  exact ⟨rfl, rfl⟩

set_option maxHeartbeats 400000 in
theorem sort_any (c : Nat) (w : World) :
    Calls Tryz.prog 81 #[.int .u8 c] w fun e w' => e = .returned (.int .i64 (sortN c)) ∧ w = w' := by
  by_cases h1 : (97 : Int) ≤ c <;> by_cases h2 : (c : Int) ≤ 122 <;> by_cases h3 : (48 : Int) ≤ c <;> by_cases h4 : (c : Int) ≤ 57 <;> first | omega |
  · go_enter Tryz.func81, Tryz.ntmps81
    go_wp2
    go_ret
    exact ⟨ret_int (by unfold sortN; split <;> (try split) <;> first | rfl | omega), rfl⟩

set_option maxHeartbeats 400000 in
theorem between_any (a b : UInt8) (w : World) (h : 0 ≤ charIdx a) (h' : charIdx a ≤ charIdx b + 1) :
    Calls Tryz.prog 82 #[.int .u8 a.toNat, .int .u8 b.toNat] w fun e w' => e = .returned (.string (betweenB a b)) ∧ w = w' := by
  have h40 := charIdx_lt b
  have hg := charIdx_ge b
  go_enter Tryz.func82, Tryz.ntmps82
  go_wp2_with (go_at_call 80; refine (idxChars_any _ _).mono ?_; rintro e w' ⟨rfl, rfl⟩)
  go_ret
  exact ⟨rfl, rfl⟩

set_option maxHeartbeats 400000 in
theorem oneHas_any (d c : Int) (w : World) : Calls Tryz.prog 126 #[.int .u8 d, .int .u8 c] w fun e w' => e = .returned (.bool (d == c)) ∧ w = w' := by
  go_enter Tryz.func126, Tryz.ntmps126
  go_wp2
  go_ret
  exact ⟨rfl, rfl⟩

set_option maxHeartbeats 400000 in
theorem oneRepeats_any (d : Int) (w : World) : Calls Tryz.prog 127 #[.int .u8 d] w fun e w' => e = .returned (.bool false) ∧ w = w' := by
  go_enter Tryz.func127, Tryz.ntmps127
  go_wp2
  go_ret
  exact ⟨rfl, rfl⟩

set_option maxHeartbeats 400000 in
theorem classRepeats_any (set : ByteArray) (inv : Bool) (w : World) : Calls Tryz.prog 129 #[.agg #[.string set, .bool inv]] w fun e w' => e = .returned (.bool false) ∧ Below w.heap.size w w' := by
  go_enter Tryz.func129, Tryz.ntmps129
  go_wp2
  go_ret
  exact ⟨rfl, (Below.refl _ _).alloc (Nat.le_refl _) _⟩

set_option maxHeartbeats 400000 in
theorem starRepeats_any (w : World) : Calls Tryz.prog 131 #[.agg #[]] w fun e w' => e = .returned (.bool true) ∧ Below w.heap.size w w' := by
  go_enter Tryz.func131, Tryz.ntmps131
  go_wp2
  go_ret
  exact ⟨rfl, (Below.refl _ _).alloc (Nat.le_refl _) _⟩

set_option maxHeartbeats 400000 in
theorem starHas_any (c : UInt8) (w : World) : Calls Tryz.prog 130 #[.agg #[], .int .u8 c.toNat] w fun e w' => e = .returned (.bool (namedB c)) ∧ Below w.heap.size w w' := by
  go_enter Tryz.func130, Tryz.ntmps130
  go_wp2_with (go_at_call 57; refine (named_any _ _).mono ?_; rintro e w' ⟨rfl, rfl⟩)
  go_ret
  exact ⟨rfl, (Below.refl _ _).alloc (Nat.le_refl _) _⟩

theorem named_as (b : Bool) (c : UInt8) (w : World) (h : namedB c = b) :
    Calls Tryz.prog 57 #[.int .u8 c.toNat] w fun e w' => e = .returned (.bool b) ∧ w = w' := by rw [← h]; exact named_any c w

set_option maxHeartbeats 400000 in
theorem classHas_no (set : ByteArray) (inv : Bool) (c : UInt8) (w : World) (H : Hid (namedB c = false)) : Calls Tryz.prog 128 #[.agg #[.string set, .bool inv], .int .u8 c.toNat] w fun e w' => e = .returned (.bool false) ∧ Below w.heap.size w w' := by
  go_enter Tryz.func128, Tryz.ntmps128
  go_wp2
  go_quiet ((first | (go_at_call 57; exact quiet_same (named_as false _ _ H.out)) | (go_at_call 80; exact quiet_same (indexByte_any _ _ _))))
  go_wp2
  go_ret
  exact ⟨rfl, below_drewN ((Below.refl _ _).alloc (Nat.le_refl _) _) _⟩

set_option maxHeartbeats 400000 in
theorem classHas_yes (set : ByteArray) (inv : Bool) (c : UInt8) (w : World) (H : Hid (namedB c = true)) : Calls Tryz.prog 128 #[.agg #[.string set, .bool inv], .int .u8 c.toNat] w fun e w' => e = .returned (.bool (decide (0 ≤ Lib.indexByte set.data.toList c) != inv)) ∧ Below w.heap.size w w' := by
  go_enter Tryz.func128, Tryz.ntmps128
  go_wp2
  go_quiet ((first | (go_at_call 57; exact quiet_same (named_as true _ _ H.out)) | (go_at_call 80; exact quiet_same (indexByte_any _ _ _))))
  go_wp2
  go_ret
  exact ⟨rfl, below_drewN ((Below.refl _ _).alloc (Nat.le_refl _) _) _⟩

end Go.Proofs.YtddiecdoaggaaaaGreatDoor
