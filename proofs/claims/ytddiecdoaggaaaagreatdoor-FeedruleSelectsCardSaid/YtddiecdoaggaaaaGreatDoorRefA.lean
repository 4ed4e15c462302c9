/- The small functions of the references: alnum, Char, word, has. -/
import Derived.Test.YtddiecdoaggaaaaGreatDoorFeedD
import Derived.Test.YtddiecdoaggaaaaGreatDoorRet
namespace Go.Proofs.YtddiecdoaggaaaaGreatDoor
open Go.RowKit

def alnumR (c : UInt8) : Int := if 97 ≤ c.toNat ∧ c.toNat ≤ 122 then 1 else if 48 ≤ c.toNat ∧ c.toNat ≤ 57 then 2 else 0
def charR (c : UInt8) : Bool := decide (0 < alnumR c) || (c.toNat == 43 || c.toNat == 45 || c.toNat == 95 || c.toNat == 46)
theorem charR_named (c : UInt8) : charR c = namedB c := by
  have key : ∀ n : Fin 256, charR (UInt8.ofNat n) = namedB (UInt8.ofNat n) := by decide +kernel
  have := key ⟨c.toNat, UInt8.toNat_lt c⟩
  simpa using this
set_option maxRecDepth 100000
attribute [local irreducible] K KS KLeft KRound J OV EV EU Blk wpList Code.wp bodyPost Exit.then Exit.inBlock Round Left Hid JS wpStill wpHeld Calls
theorem alnum_any (c : UInt8) (r : World) : Calls Tryz.prog 84 #[.int .u8 c.toNat] r fun e w' => e = .returned (.int .i64 (alnumR c)) ∧ Below r.heap.size r w' := by
  unfold alnumR
  refine k_enter (N := 17) Tryz.func84 rfl rfl rfl ?_
  by_cases h1 : 97 ≤ c.toNat ∧ c.toNat ≤ 122
  · rw [if_pos h1]
    obtain ⟨h1, h2⟩ := h1
    refine walk ?_
    exact k_ret1 rfl rfl fun w hw => ⟨rfl, hw.below rfl⟩
  · rw [if_neg h1]
    have hlt := UInt8.toNat_lt c
    by_cases h2 : 48 ≤ c.toNat ∧ c.toNat ≤ 57
    · rw [if_pos h2]
      obtain ⟨h2, h3⟩ := h2
      refine walk ?_
      exact k_ret1 rfl rfl fun w hw => ⟨rfl, hw.below rfl⟩
    · rw [if_neg h2]
      by_cases a : 97 ≤ c.toNat
      · have b : ¬ c.toNat ≤ 122 := fun h => h1 ⟨a, h⟩
        refine walk ?_
        exact k_ret1 rfl rfl fun w hw => ⟨rfl, hw.below rfl⟩
      · by_cases b : 48 ≤ c.toNat
        · have d : ¬ c.toNat ≤ 57 := fun h => h2 ⟨b, h⟩
          refine walk ?_
          exact k_ret1 rfl rfl fun w hw => ⟨rfl, hw.below rfl⟩
        · refine walk ?_
          exact k_ret1 rfl rfl fun w hw => ⟨rfl, hw.below rfl⟩
theorem char_any (c : UInt8) (r : World) : Calls Tryz.prog 64 #[.int .u8 c.toNat] r fun e w' => e = .returned (.bool (charR c)) ∧ Below r.heap.size r w' := by
  unfold charR
  have ha : alnumR c = 0 ∨ alnumR c = 1 ∨ alnumR c = 2 := by unfold alnumR; repeat (first | split | omega)
  refine k_enter (N := 22) Tryz.func64 rfl rfl rfl ?_
  refine walk ?_
  refine k_callb (v := .int .i64 (alnumR c)) (by kernel_rfl) rfl rfl (fun w hw => alnum_any c w) ?_
  rcases ha with h | h | h
  · rw [h]
    have hb := UInt8.toNat_lt c
    by_cases a1 : c.toNat = 43
    · refine walk ?_
      exact k_ret1 rfl rfl fun w hw => ⟨by rw [a1]; rfl, hw.below rfl⟩
    · by_cases a2 : c.toNat = 45
      · refine walk ?_
        exact k_ret1 rfl rfl fun w hw => ⟨by rw [a2]; rfl, hw.below rfl⟩
      · by_cases a3 : c.toNat = 95
        · refine walk ?_
          exact k_ret1 rfl rfl fun w hw => ⟨by rw [a3]; rfl, hw.below rfl⟩
        · by_cases a4 : c.toNat = 46
          · refine walk ?_
            exact k_ret1 rfl rfl fun w hw => ⟨by rw [a4]; rfl, hw.below rfl⟩
          · refine walk ?_
            exact k_ret1 rfl rfl fun w hw => ⟨ret_bool (by simp [a1, a2, a3, a4]), hw.below rfl⟩
  · rw [h]
    refine walk ?_
    exact k_ret1 rfl rfl fun w hw => ⟨ret_bool (by simp), hw.below rfl⟩
  · rw [h]
    refine walk ?_
    exact k_ret1 rfl rfl fun w hw => ⟨ret_bool (by simp), hw.below rfl⟩
theorem charN_any (c : UInt8) (n : Int) (hn : n = c.toNat) (r : World) : Calls Tryz.prog 64 #[.int .u8 n] r fun e w' => e = .returned (.bool (namedB c)) ∧ Below r.heap.size r w' := by
  subst hn; rw [← charR_named]; exact char_any c r
theorem alnum_sort (c : UInt8) : alnumR c = sortN c.toNat := rfl
attribute [local irreducible] isLower isDigit distP
set_option maxHeartbeats 800000 in
theorem word_any (s : ByteArray) (r : World) (hs : s.size ≤ 9223372036854775807) : Calls Tryz.prog 21 #[.string s] r fun e w' => e = .returned (.bool (distP s.data.toList)) ∧ Below r.heap.size r w' := by
  refine k_enter (N := 40) Tryz.func21 rfl rfl rfl ?_
  refine walk ?_
  refine k_loop (σ := Nat) (fun k => [(0, .string s), (3, .int .i64 k)]) (fun _ => []) (fun k => k ≤ s.size ∧ ∀ j (hj : j < s.size), j < k → okc s[j].toNat = true) (fun k => s.size - k) 0 (by repeat (first | exact Sub.nil | refine Sub.cons rfl ?_)) (by repeat (first | exact SubO.nil | refine SubO.keep ?_ | refine SubO.drop rfl ?_)) ⟨Nat.zero_le _, fun j _ h => by omega⟩ ?_
  rintro k ⟨hk, hall⟩
  by_cases hlt : k < s.size
  · refine walk ?_
    refine k_op rfl (fun _ _ => ov_strindex rfl rfl (by kernel_rfl) k rfl hlt) ?_
    refine walk ?_
    have hlt8 := UInt8.toNat_lt s[k]
    have hnext : okc s[k].toNat = true → ∀ j (hj : j < s.size), j < k + 1 → okc s[j].toNat = true := fun h j hj hjk => by
      rcases Nat.lt_succ_iff_lt_or_eq.1 hjk with h1 | h1
      · exact hall j hj h1
      · subst h1; exact h
    have hstop : okc s[k].toNat = false → distP s.data.toList = false := distP_no hlt
    have hok : okc s[k].toNat = decide (97 ≤ s[k].toNat ∧ s[k].toNat ≤ 122 ∨ 48 ≤ s[k].toNat ∧ s[k].toNat ≤ 57 ∨ s[k].toNat = 45) := by
      unfold okc isLower isDigit
      rw [Bool.eq_iff_iff]
      simp only [Bool.or_eq_true, Bool.and_eq_true, decide_eq_true_iff]
      omega
    rw [hok] at hnext hstop
    generalize s[k].toNat = c at hnext hstop hlt8
    clear hok
    by_cases g : 97 ≤ c ∧ c ≤ 122 ∨ 48 ≤ c ∧ c ≤ 57 ∨ c = 45
    · have hn := hnext (decide_eq_true g)
      repeat (any_goals (first | refine walk1 ?_ | (apply k_condd; exact rfl; all_goals intro _) | (apply k_condn; exact rfl; all_goals intro _) | (apply k_guardd; exact rfl; exact rfl; exact rfl; exact rfl; all_goals intro _)))
      all_goals first | (refine k_round (k + 1) (by repeat (first | exact Sub.nil | refine Sub.cons rfl ?_)) (by repeat (first | exact SubO.nil | refine SubO.keep ?_ | refine SubO.drop rfl ?_)) ⟨by omega, hn⟩ (by omega)) | (exfalso; omega)
    · have hn := hstop (decide_eq_false g)
      repeat (any_goals (first | refine walk1 ?_ | (apply k_condd; exact rfl; all_goals intro _) | (apply k_condn; exact rfl; all_goals intro _) | (apply k_guardd; exact rfl; exact rfl; exact rfl; exact rfl; all_goals intro _)))
      all_goals first | (exact k_ret1 rfl rfl fun w hw => ⟨by rw [hn], hw.below rfl⟩) | (exfalso; omega)
  · have hd := distP_yes (s := s) (fun j hj => hall j hj (by omega))
    rw [hd]
    have he : s.data.toList.isEmpty = decide (s.size = 0) := by
      rw [← len_data, Bool.eq_iff_iff, List.isEmpty_iff_length_eq_zero, decide_eq_true_iff]
    rw [he]
    by_cases h1 : s.size = 0
    · refine walk ?_
      exact k_ret1 rfl rfl fun w hw => ⟨ret_bool (by simp [h1]), hw.below rfl⟩
    · by_cases h2 : s.size ≤ 20
      · refine walk ?_
        exact k_ret1 rfl rfl fun w hw => ⟨ret_bool (by simp [h1, h2]), hw.below rfl⟩
      · refine walk ?_
        exact k_ret1 rfl rfl fun w hw => ⟨ret_bool (by simp [h1, h2]), hw.below rfl⟩
theorem has_any (v : Value) (l : List ByteArray) (x : ByteArray) (r : World) (h : StrsAt r v l) (hn : l.length ≤ 9223372036854775807) : Calls Tryz.prog 22 #[v, .string x] r fun e w' => e = .returned (.bool (Lib.containsS l x)) ∧ Below r.heap.size r w' := by
  obtain ⟨ea, cap, rfl, _, hc⟩ := h
  refine k_enter (N := 18) Tryz.func22 rfl rfl rfl ?_
  refine walk ?_
  refine k_loop (σ := Nat) (fun k => [(0, .slice ea l.length cap), (1, .string x), (5, .int .i64 k)]) (fun _ => []) (fun k => k ≤ l.length ∧ Lib.containsS l x = Lib.containsS (l.drop k) x) (fun k => l.length - k) 0 (by repeat (first | exact Sub.nil | refine Sub.cons rfl ?_)) (by repeat (first | exact SubO.nil | refine SubO.keep ?_ | refine SubO.drop rfl ?_)) ⟨Nat.zero_le _, rfl⟩ ?_
  rintro k ⟨hk, hC⟩
  by_cases hlt : k < l.length
  · obtain ⟨b, o, rfl, hcell⟩ := hc k l[k] (by simp [hlt])
    rw [List.drop_eq_getElem_cons hlt] at hC
    generalize l[k] = s at hcell hC
    by_cases hx : s = x
    · refine walk ?_
      exact k_ret1 rfl rfl fun w hw => ⟨ret_bool (by rw [hC, hx, eq_comm, Lib.containsS_iff]; simp), hw.below rfl⟩
    · refine walk ?_
      refine k_round (k + 1) (by repeat (first | exact Sub.nil | refine Sub.cons rfl ?_)) (by repeat (first | exact SubO.nil | refine SubO.keep ?_ | refine SubO.drop rfl ?_)) ⟨by omega, ?_⟩ (by omega)
      rw [hC, Bool.eq_iff_iff, Lib.containsS_iff, Lib.containsS_iff, List.mem_cons]
      exact ⟨fun h => h.elim (fun h => absurd h.symm hx) id, .inr⟩
  · refine walk ?_
    rw [List.drop_eq_nil_of_le (by omega)] at hC
    exact k_ret1 rfl rfl fun w hw => ⟨by rw [hC]; rfl, hw.below rfl⟩
end Go.Proofs.YtddiecdoaggaaaaGreatDoor
