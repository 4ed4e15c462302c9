/- The walk of wildmat.parseClass. -/
import Derived.Test.YtddiecdoaggaaaaGreatDoorWild
import Derived.StillTailTactics
namespace Go.Proofs.YtddiecdoaggaaaaGreatDoor
open Go.RowKit

theorem encode_ascii (c : UInt8) (h : c.toNat < 128) : Utf8.encode c.toNat = ⟨#[c]⟩ := by
  have hv : Utf8.valid (c.toNat : Int) = true := by unfold Utf8.valid; simp; omega
  unfold Utf8.encode
  simp [hv, h]

theorem hasPrefix_any (s p : ByteArray) (w : World) :
    Calls Tryz.prog 37 #[.string s, .string p] w fun e w' => e = .returned (.bool (Lib.hasPrefix s.data.toList p.data.toList)) ∧ w = w' :=
  (Tryz.strings_HasPrefix s p w).mono fun _ _ ⟨h, h'⟩ => ⟨h, h'.symm⟩
theorem hasPrefix_as (b : Bool) (s p : ByteArray) (w : World) (h : Lib.hasPrefix s.data.toList p.data.toList = b) :
    Calls Tryz.prog 37 #[.string s, .string p] w fun e w' => e = .returned (.bool b) ∧ w = w' := by rw [← h]; exact hasPrefix_any s p w

theorem named_i (b : Bool) (c : UInt8) (n : Int) (w : World) (hn : n = c.toNat) (h : namedB c = b) :
    Calls Tryz.prog 57 #[.int .u8 n] w fun e w' => e = .returned (.bool b) ∧ w = w' := by rw [hn]; exact named_as b c w h
theorem sort_as (v : Int) (c : Nat) (w : World) (h : sortN c = v) :
    Calls Tryz.prog 81 #[.int .u8 c] w fun e w' => e = .returned (.int .i64 v) ∧ w = w' := by rw [← h]; exact sort_any c w

/-- What parseClass leaves. -/
def ClassPost (l : List UInt8) (w : World) (e : Ending) (w' : World) : Prop := Below w.heap.size w w' ∧ match clsP l with
  | none => ∃ (set : ByteArray) (inv : Bool), e = .returned (.tuple #[.agg #[.string set, .bool inv], .int .i64 0])
  | some (set, n) => e = .returned (.tuple #[.agg #[.string set, .bool (clsInv l)], .int .i64 n])
theorem cp_none {l : List UInt8} {w w' : World} {e : Ending} {set : ByteArray} {inv : Bool} (h : clsP l = none) (he : e = .returned (.tuple #[.agg #[.string set, .bool inv], .int .i64 0])) (hb : Below w.heap.size w w') : ClassPost l w e w' := by
  unfold ClassPost; rw [h]; exact ⟨hb, set, inv, he⟩
theorem cp_some {l : List UInt8} {w w' : World} {e : Ending} {set : ByteArray} {n : Nat} (h : clsP l = some (set, n)) (he : e = .returned (.tuple #[.agg #[.string set, .bool (clsInv l)], .int .i64 n])) (hb : Below w.heap.size w w') : ClassPost l w e w' := by
  unfold ClassPost; rw [h]; exact ⟨hb, he⟩
theorem clsP_none {l : List UInt8} {fst : Nat} (hf : clsFirst l = fst) (h : clsGo l fst (l.length + 1) fst ByteArray.empty = none) : clsP l = none := by
  unfold clsP; rw [hf, h]
theorem clsP_end {l : List UInt8} {fst i : Nat} {set : ByteArray} (hf : clsFirst l = fst) (h : clsGo l fst (l.length + 1) fst ByteArray.empty = some (set, i)) (h2 : l.length ≤ i ∨ i = fst) : clsP l = none := by
  unfold clsP; rw [hf, h]; exact if_pos h2
theorem clsP_some {l : List UInt8} {fst i : Nat} {set : ByteArray} (hf : clsFirst l = fst) (h : clsGo l fst (l.length + 1) fst ByteArray.empty = some (set, i)) (h2 : ¬ (l.length ≤ i ∨ i = fst)) : clsP l = some (set, i + 1) := by
  unfold clsP; rw [hf, h]; exact if_neg h2

theorem encode_ascii_le (c : UInt8) (h : c.toNat < 128) : (Utf8.encode c.toNat).size ≤ 1 := by rw [encode_ascii c h]; exact Nat.le_refl _
theorem betweenB_le (a b : UInt8) : (betweenB a b).size ≤ 40 := by
  unfold betweenB; rw [ByteArray.size_extract]; have : charsB.size = 40 := rfl; omega
theorem size_append (a b : ByteArray) : (a ++ b).size = a.size + b.size := ByteArray.size_append
theorem sort_chars {c : UInt8} (h : 0 < sortN c.toNat) : 0 ≤ charIdx c := by
  have : ∀ n : Fin 256, 0 < sortN (UInt8.ofNat n.val).toNat → 0 ≤ charIdx (UInt8.ofNat n.val) := by decide +kernel
  have h2 := this ⟨c.toNat, c.toNat_lt⟩
  simp at h2; exact h2 h
theorem sort_mono {a b : UInt8} (h : 0 < sortN a.toNat) (hs : sortN a.toNat = sortN b.toNat) (hab : a.toNat ≤ b.toNat) : charIdx a ≤ charIdx b + 1 := by
  have h1 : ∀ n : Fin 256, sortN (UInt8.ofNat n.val).toNat = 1 → charIdx (UInt8.ofNat n.val) = (n.val : Int) - 83 := by decide +kernel
  have h2 : ∀ n : Fin 256, sortN (UInt8.ofNat n.val).toNat = 2 → charIdx (UInt8.ofNat n.val) = (n.val : Int) - 45 := by decide +kernel
  have ha1 := h1 ⟨a.toNat, a.toNat_lt⟩
  have ha2 := h2 ⟨a.toNat, a.toNat_lt⟩
  have hb1 := h1 ⟨b.toNat, b.toNat_lt⟩
  have hb2 := h2 ⟨b.toNat, b.toNat_lt⟩
  simp only [UInt8.ofNat_toNat] at ha1 ha2 hb1 hb2
  have hv : sortN a.toNat = 1 ∨ sortN a.toNat = 2 := by
    unfold sortN at h ⊢
    split at h
    · left; rename_i e; rw [if_pos e]
    · split at h
      · right; rename_i e e2; rw [if_neg e, if_pos e2]
      · omega
  rcases hv with hv | hv
  · rw [ha1 hv, hb1 (by omega)]; omega
  · rw [ha2 hv, hb2 (by omega)]; omega

theorem still_tail_drewN {P : Program} {id q : Nat} {Q : Exit → Act → World → Prop} {a : Act} {W : World} {l : List Oper} (n : Nat) (hm : P.follows .mixedOrders = true) (hB : Region.lexTailB .any l.toArray n = true)
    (h : wpStill P l.toArray (W.drewN (q + 1)) (fun a' => wpList P l.toArray Q (l.drop n) a' (W.drewN (q + 1))) (l.take n) a) : (Code.region id l.toArray true).wp P Q a (W.drewN q) :=
  wp_region_still_tail n hm hB h
theorem enc45 : Utf8.encode 45 = ⟨#[45]⟩ := by decide +kernel
attribute [local irreducible] Utf8.encode Hid betweenB charIdx sortN clsGo namedB byteAt clsP clsFirst clsInv
theorem store_last (w : World) (A : Obj) (x y v : Value) (T : TypeId) (q : Nat) :
    (((w.alloc A).alloc (.cells #[x, y] T)).drewN q).setCell ⟨w.heap.size + 1, 0, none⟩ v = ((w.alloc A).alloc (.cells #[v, y] T)).drewN q := by
  have h : ((w.alloc A).alloc (.cells #[x, y] T)).setCell ⟨w.heap.size + 1, 0, none⟩ v = (w.alloc A).alloc (.cells #[v, y] T) := by
    rw [World.setCell_alloc_at _ _ _ _ _ (by simp)]; rfl
  rw [← h]; rfl

set_option maxRecDepth 100000 in
set_option maxHeartbeats 2000000 in
theorem parseClass_true (s : ByteArray) (w : World) (hs : s.size ≤ 1000) (h1 : 1 ≤ s.size) (Hinv : Hid (Lib.hasPrefix s.data.toList [91, 94] = true)) :
    Calls Tryz.prog 58 #[.string s] w (ClassPost s.data.toList w) := by
  have Hlen := Lib.hid (len_data s)
  have Hf : Hid (clsFirst s.data.toList = 2) := by unfold clsFirst clsInv; rw [Hinv.out]; exact Lib.hid rfl
  have Hi : Hid (clsInv s.data.toList = true) := by unfold clsInv; rw [Hinv.out]; exact Lib.hid rfl
  go_enter Tryz.func58, Tryz.ntmps58
  go_wp2_with (go_at_call 37; refine (hasPrefix_as true _ _ _ Hinv.out).mono ?_; rintro e w' ⟨rfl, rfl⟩)
  go_loopw [5] (fun i wr => ∃ (k n q : Nat) (set : ByteArray), i = .int .i64 k ∧ 2 ≤ k ∧ k ≤ s.size + 1 ∧ s.size + 1 < n + k ∧ set.size ≤ 40 * k ∧ Hid (clsGo s.data.toList 2 n k set = clsGo s.data.toList 2 (s.data.toList.length + 1) 2 ByteArray.empty) ∧ wr = ((w.alloc (.cells #[.string { data := #[] }, .bool false] 131)).alloc (.cells #[.string set, .bool true] 131)).drewN q) (fun i _ => s.size + 1 - (intOf i).toNat)
  case atStart => exact ⟨2, s.size + 1, 0, ByteArray.empty, rfl, by omega, by omega, by omega, by simp, by rw [Hlen.out]; exact Lib.hid rfl, rfl⟩
  case round =>
    obtain ⟨k, n, q, set, rfl, hk1, hk2, hn, hset, Hgo, rfl⟩ := hrel
    obtain ⟨n, rfl⟩ : ∃ m, n = m + 1 := ⟨n - 1, by omega⟩
    by_cases hlt : k < s.size
    · have E0 := Lib.hid (byteAt_eq s k hlt)
      have x1 : decide ((s.size : Int) ≤ k) = false := by simp; omega
      by_cases h93 : s[k].toNat = 93
      · have hg : goesOn s.data.toList k = false := by unfold goesOn; rw [E0.out]; simp [h93]
        have Hr := Lib.hid (Hgo.out.symm.trans (cg_end hg)); clear hg
        have a1 : (93:Int) ≤ s[k].toNat := by omega
        have a2 : (s[k].toNat : Int) ≤ 93 := by omega
        clear h93
        by_cases hf : k = 2
        · obtain rfl := hf
          go_wp2
          all_goals first | (exfalso; omega) | (refine bodyPost_ret (v := .tuple #[.agg #[.string set, .bool true], .int .i64 0]) (by simp [results, Tryz.results58, go_sem]) rfl ?_; exact cp_none (clsP_end Hf.out Hr.out (Or.inr rfl)) rfl (((below_drewN (((Below.refl _ _).alloc (Nat.le_refl _) _).alloc (by simp) _) _).setCell (Nat.le_refl _) _).setCell (Nat.le_refl _) _))
        · have b1 : 2 < k := by omega
          have b2 : ((k : Int) == 2) = false := by simp; omega
          go_wp2
          all_goals first | (exfalso; omega) | (refine bodyPost_ret (v := .tuple #[.agg #[.string set, .bool true], .int .i64 (k + 1)]) (by simp [results, Tryz.results58, go_sem]) rfl ?_; exact cp_some (clsP_some Hf.out Hr.out (by rw [Hlen.out]; omega)) (by rw [Hi.out]; rfl) (((below_drewN (((Below.refl _ _).alloc (Nat.le_refl _) _).alloc (by simp) _) _).setCell (Nat.le_refl _) _).setCell (Nat.le_refl _) _))
      · have hg : goesOn s.data.toList k = true := by unfold goesOn; rw [E0.out, Hlen.out]; simp [h93]; omega
        have c93 : ((s[k].toNat : Int) != 93) = true := by simp; omega
        rcases hn : namedB s[k] with _ | _
        · have hb : badAt s.data.toList 2 k = true := by unfold badAt; rw [E0.out, hn]; rfl
          have Hr := Lib.hid (Hgo.out.symm.trans (cg_bad hg hb)); clear hg hb
          have Hn := Lib.hid hn; clear hn
          go_wp2_with (go_at_call 57; refine (named_as false _ _ Hn.out).mono ?_; rintro e w' ⟨rfl, rfl⟩)
          all_goals first | (exfalso; omega) | (refine bodyPost_ret (v := .tuple #[.agg #[.string set, .bool true], .int .i64 0]) (by simp [results, Tryz.results58, go_sem]) rfl ?_; exact cp_none (clsP_none Hf.out Hr.out) rfl (((below_drewN (((Below.refl _ _).alloc (Nat.le_refl _) _).alloc (by simp) _) _).setCell (Nat.le_refl _) _).setCell (Nat.le_refl _) _))
        · have Hn := Lib.hid hn
          by_cases h45 : s[k].toNat = 45
          · have a1 : (45:Int) ≤ s[k].toNat := by omega
            have a2 : (s[k].toNat : Int) ≤ 45 := by omega
            by_cases hfk : 2 < k
            · have hb : badAt s.data.toList 2 k = true := by unfold badAt; rw [E0.out]; simp [h45, hfk]
              have Hr := Lib.hid (Hgo.out.symm.trans (cg_bad hg hb)); clear hg hb hn h45
              go_wp2_with (go_at_call 57; refine (named_as true _ _ Hn.out).mono ?_; rintro e w' ⟨rfl, rfl⟩)
              all_goals first | (exfalso; omega) | (refine bodyPost_ret (v := .tuple #[.agg #[.string set, .bool true], .int .i64 0]) (by simp [results, Tryz.results58, go_sem]) rfl ?_; exact cp_none (clsP_none Hf.out Hr.out) rfl (((below_drewN (((Below.refl _ _).alloc (Nat.le_refl _) _).alloc (by simp) _) _).setCell (Nat.le_refl _) _).setCell (Nat.le_refl _) _))
            · have hb : badAt s.data.toList 2 k = false := by unfold badAt; rw [E0.out]; simp [hn, hfk]
              have ho : singleOk s.data.toList k = true := by unfold singleOk; rw [E0.out]; simp [h45]
              have hr := (cg_one hg hb ho).symm.trans Hgo.out
              rw [E0.out] at hr
              have Hr := Lib.hid hr; clear hg hb hn ho hr h45
              go_wp2_with (go_at_call 57; refine (named_as true _ _ Hn.out).mono ?_; rintro e w' ⟨rfl, rfl⟩)
              · exfalso; have z : (Utf8.encode 45).size ≤ 1 := by rw [enc45]; exact Nat.le_refl _
                omega
              · go_roundw
                case rel => exact ⟨k + 1, n, q, set ++ ⟨#[s[k]]⟩, by go_num, by omega, by omega, by omega, by rw [size_append]; show set.size + 1 ≤ _; omega, Hr, by rw [store_last, enc45, show s[k] = 45 from UInt8.toNat_inj.1 (by show s[k].toNat = 45; omega)]⟩
                case measure => simp [intOf]; omega
          · have hb : badAt s.data.toList 2 k = false := by unfold badAt; rw [E0.out]; simp [hn, h45]
            have c45 : ((s[k].toNat : Int) == 45) = false := by simp; omega
            by_cases hl : s.size ≤ k + 1
            · have ho : singleOk s.data.toList k = true := by unfold singleOk; rw [Hlen.out]; simp [hl]
              have hr := (cg_one hg hb ho).symm.trans Hgo.out
              rw [E0.out] at hr
              have Hr := Lib.hid hr; clear hg hb hn ho hr h45
              have x2 : decide ((s.size : Int) ≤ k + 1) = true := by simp; omega
              go_wp2_with (go_at_call 57; refine (named_as true _ _ Hn.out).mono ?_; rintro e w' ⟨rfl, rfl⟩)
              all_goals first | (exfalso; omega) | skip
              · exfalso; have z := encode_ascii_le s[k] (named_small Hn.out); omega
              · go_roundw
                case rel => exact ⟨k + 1, n, q, set ++ ⟨#[s[k]]⟩, by go_num, by omega, by omega, by omega, by rw [size_append]; show set.size + 1 ≤ _; omega, Hr, by rw [store_last, encode_ascii _ (named_small Hn.out)]⟩
                case measure => simp [intOf]; omega
            · have E1 := Lib.hid (byteAt_eq s (k+1) (by omega))
              have x2 : decide ((s.size : Int) ≤ k + 1) = false := by simp; omega
              have x3 : k + 1 < s.size := by omega
              by_cases h45' : s[k+1].toNat = 45
              · have ho : singleOk s.data.toList k = false := by unfold singleOk; rw [Hlen.out, E0.out, E1.out]; simp [h45, h45', hl]
                have c45' : ((s[k+1].toNat : Int) != 45) = false := by simp; omega
                by_cases hl2 : k + 2 < s.size
                · have E2 := Lib.hid (byteAt_eq s (k+2) hl2)
                  have x5 : (k : Int) + 2 < s.size := by omega
                  obtain ⟨v1, hv1⟩ : ∃ v, sortN s[k].toNat = v := ⟨_, rfl⟩
                  have Hv1 := Lib.hid hv1
                  by_cases hp : 0 < v1
                  · have x6 : decide (0 < v1) = true := by simp; omega
                    by_cases hv2 : sortN s[k+2].toNat = v1
                    · have Hv2 := Lib.hid hv2
                      by_cases hle : s[k].toNat ≤ s[k+2].toNat
                      · have hr3 : rangeOk s.data.toList k = true := by unfold rangeOk; rw [Hlen.out, E0.out, E2.out, hv1, hv2]; simp [hl2, hp, hle]
                        have hr := (cg_range hg hb ho hr3).symm.trans Hgo.out
                        rw [E0.out, E2.out] at hr
                        have Hr := Lib.hid hr
                        have z1 := sort_chars (c := s[k]) (by rw [hv1]; exact hp)
                        have z2 := sort_mono (a := s[k]) (b := s[k+2]) (by rw [hv1]; exact hp) (by rw [hv1, hv2]) hle
                        have z3 := betweenB_le s[k] s[k+2]
                        clear hg hb hn ho hr hr3 h45 h45' hv1 hv2
                        have Hle := Lib.hid hle; clear hle
                        go_wp2_with (go_at_call 57; refine (named_as true _ _ Hn.out).mono ?_; rintro e w' ⟨rfl, rfl⟩)
                        have q3 : 0 ≤ (k : Int) + 2 := (by omega); have q2 : ((k : Int) + 2).toNat = k + 2 := (by omega)
                        go_quiet ((go_at_call 81; first | exact quiet_same2 (sort_as v1 _ _ Hv1.out) | exact quiet_same2 (sort_as v1 _ _ Hv2.out)))
                        go_wp2_with fail
                        · have z4 : ¬ 9223372036854775807 < set.size + (betweenB s[k] s[k+2]).size := by omega
                          have q1 : IntKind.i64.wrap ((k : Int) + 2) = k + 2 := IntWalk.i64_in _ (by omega)
                          refine still_tail_drewN 10 (by kernel_rfl) (by kernel_rfl) ?_
                          simp only [List.take_succ_cons, List.take_zero, List.drop_succ_cons, List.drop_zero]
                          iterate 7 still_step
                          still_call ((between_any s[k] s[k+2] _ z1 z2).mono (fun _ _ h => ⟨h.1, h.2.symm⟩))
                          repeat still_step
                          refine wpStill_nil ?_
                          go_wp2
                          go_roundw
                          case rel => exact ⟨k + 3, n, _, set ++ betweenB s[k] s[k+2], by go_num, by omega, by omega, by omega, by rw [size_append]; omega, Hr, by rw [store_last]⟩
                          case measure => simp [intOf]; omega
                        · exfalso; have := Hle.out; omega
                      · have hr3 : rangeOk s.data.toList k = false := by unfold rangeOk; rw [Hlen.out, E0.out, E2.out, hv1, hv2]; simp [hl2, hp, hle]
                        have Hr := Lib.hid (Hgo.out.symm.trans (cg_none hg hb ho hr3))
                        clear hg hb hn ho hr3 h45 h45' hv1 hv2
                        have Hle := Lib.hid hle; clear hle
                        go_wp2_with (go_at_call 57; refine (named_as true _ _ Hn.out).mono ?_; rintro e w' ⟨rfl, rfl⟩)
                        have q3 : 0 ≤ (k : Int) + 2 := (by omega); have q2 : ((k : Int) + 2).toNat = k + 2 := (by omega)
                        go_quiet ((go_at_call 81; first | exact quiet_same2 (sort_as v1 _ _ Hv1.out) | exact quiet_same2 (sort_as v1 _ _ Hv2.out)))
                        go_wp2
                        all_goals first | (exfalso; omega) | (exfalso; have := Hle.out; omega) | (refine bodyPost_ret (v := .tuple #[.agg #[.string set, .bool true], .int .i64 0]) (by simp [results, Tryz.results58, go_sem]) rfl ?_; exact cp_none (clsP_none Hf.out Hr.out) rfl (((below_drewN (((Below.refl _ _).alloc (Nat.le_refl _) _).alloc (by simp) _) _).setCell (Nat.le_refl _) _).setCell (Nat.le_refl _) _))
                    · have hr3 : rangeOk s.data.toList k = false := by unfold rangeOk; rw [Hlen.out, E0.out, E2.out, hv1]; simp; intros; omega
                      have Hr := Lib.hid (Hgo.out.symm.trans (cg_none hg hb ho hr3))
                      obtain ⟨v2, hv3⟩ : ∃ v, sortN s[k+2].toNat = v := ⟨_, rfl⟩
                      have Hv3 := Lib.hid hv3
                      have x6 : decide (0 < v1) = true := by simp; omega
                      have x7 : (v1 == v2) = false := by simp; omega
                      clear hg hb hn ho hr3 h45 h45' hv1 hv2 hv3
                      go_wp2_with (go_at_call 57; refine (named_as true _ _ Hn.out).mono ?_; rintro e w' ⟨rfl, rfl⟩)
                      have q3 : 0 ≤ (k : Int) + 2 := (by omega); have q2 : ((k : Int) + 2).toNat = k + 2 := (by omega)
                      go_quiet ((go_at_call 81; first | exact quiet_same2 (sort_as v1 _ _ Hv1.out) | exact quiet_same2 (sort_as v2 _ _ Hv3.out)))
                      go_wp2
                      all_goals first | (exfalso; omega) | (refine bodyPost_ret (v := .tuple #[.agg #[.string set, .bool true], .int .i64 0]) (by simp [results, Tryz.results58, go_sem]) rfl ?_; exact cp_none (clsP_none Hf.out Hr.out) rfl (((below_drewN (((Below.refl _ _).alloc (Nat.le_refl _) _).alloc (by simp) _) _).setCell (Nat.le_refl _) _).setCell (Nat.le_refl _) _))
                  · have hr3 : rangeOk s.data.toList k = false := by unfold rangeOk; rw [Hlen.out, E0.out, E2.out, hv1]; simp [hp]
                    have Hr := Lib.hid (Hgo.out.symm.trans (cg_none hg hb ho hr3))
                    have x6 : decide (0 < v1) = false := by simp; omega
                    clear hg hb hn ho hr3 h45 h45' hv1
                    go_wp2_with (go_at_call 57; refine (named_as true _ _ Hn.out).mono ?_; rintro e w' ⟨rfl, rfl⟩)
                    have q3 : 0 ≤ (k : Int) + 2 := (by omega); have q2 : ((k : Int) + 2).toNat = k + 2 := (by omega)
                    go_quiet ((go_at_call 81; exact quiet_same2 (sort_as v1 _ _ Hv1.out)))
                    go_wp2
                    all_goals first | (exfalso; omega) | (refine bodyPost_ret (v := .tuple #[.agg #[.string set, .bool true], .int .i64 0]) (by simp [results, Tryz.results58, go_sem]) rfl ?_; exact cp_none (clsP_none Hf.out Hr.out) rfl (((below_drewN (((Below.refl _ _).alloc (Nat.le_refl _) _).alloc (by simp) _) _).setCell (Nat.le_refl _) _).setCell (Nat.le_refl _) _))
                · have hr3 : rangeOk s.data.toList k = false := by unfold rangeOk; rw [Hlen.out]; simp [hl2]
                  have Hr := Lib.hid (Hgo.out.symm.trans (cg_none hg hb ho hr3)); clear hg hb hn ho hr3 h45 h45'
                  have x5 : decide ((k : Int) + 2 < s.size) = false := by simp; omega
                  go_wp2_with (go_at_call 57; refine (named_as true _ _ Hn.out).mono ?_; rintro e w' ⟨rfl, rfl⟩)
                  go_quiet (fail)
                  go_wp2
                  all_goals first | (exfalso; omega) | (refine bodyPost_ret (v := .tuple #[.agg #[.string set, .bool true], .int .i64 0]) (by simp [results, Tryz.results58, go_sem]) rfl ?_; exact cp_none (clsP_none Hf.out Hr.out) rfl (((below_drewN (((Below.refl _ _).alloc (Nat.le_refl _) _).alloc (by simp) _) _).setCell (Nat.le_refl _) _).setCell (Nat.le_refl _) _))
              · have ho : singleOk s.data.toList k = true := by unfold singleOk; rw [Hlen.out, E1.out]; simp [h45']
                have c45' : ((s[k+1].toNat : Int) != 45) = true := by simp; omega
                have hr := (cg_one hg hb ho).symm.trans Hgo.out
                rw [E0.out] at hr
                have Hr := Lib.hid hr; clear hg hb hn ho hr h45
                go_wp2_with (go_at_call 57; refine (named_as true _ _ Hn.out).mono ?_; rintro e w' ⟨rfl, rfl⟩)
                all_goals first | (exfalso; omega) | skip
                · exfalso; have z := encode_ascii_le s[k] (named_small Hn.out); omega
                · go_roundw
                  case rel => exact ⟨k + 1, n, q, set ++ ⟨#[s[k]]⟩, by go_num, by omega, by omega, by omega, by rw [size_append]; show set.size + 1 ≤ _; omega, Hr, by rw [store_last, encode_ascii _ (named_small Hn.out)]⟩
                  case measure => simp [intOf]; omega
    · have hg : goesOn s.data.toList k = false := by unfold goesOn; simp only [Hlen.out]; simp; omega
      have Hr := Lib.hid (Hgo.out.symm.trans (cg_end hg)); clear hg
      go_wp2
      refine bodyPost_ret (v := .tuple #[.agg #[.string set, .bool true], .int .i64 0]) (by simp [results, Tryz.results58, go_sem]) rfl ?_
      exact cp_none (clsP_end Hf.out Hr.out (by rw [Hlen.out]; omega)) rfl (((below_drewN (((Below.refl _ _).alloc (Nat.le_refl _) _).alloc (by simp) _) _).setCell (Nat.le_refl _) _).setCell (Nat.le_refl _) _)
set_option maxRecDepth 100000 in
set_option maxHeartbeats 2000000 in
theorem parseClass_false (s : ByteArray) (w : World) (hs : s.size ≤ 1000) (h1 : 1 ≤ s.size) (Hinv : Hid (Lib.hasPrefix s.data.toList [91, 94] = false)) :
    Calls Tryz.prog 58 #[.string s] w (ClassPost s.data.toList w) := by
  have Hlen := Lib.hid (len_data s)
  have Hf : Hid (clsFirst s.data.toList = 1) := by unfold clsFirst clsInv; rw [Hinv.out]; exact Lib.hid rfl
  have Hi : Hid (clsInv s.data.toList = false) := by unfold clsInv; rw [Hinv.out]; exact Lib.hid rfl
  go_enter Tryz.func58, Tryz.ntmps58
  go_wp2_with (go_at_call 37; refine (hasPrefix_as false _ _ _ Hinv.out).mono ?_; rintro e w' ⟨rfl, rfl⟩)
  go_loopw [5] (fun i wr => ∃ (k n q : Nat) (set : ByteArray), i = .int .i64 k ∧ 1 ≤ k ∧ k ≤ s.size + 1 ∧ s.size + 1 < n + k ∧ set.size ≤ 40 * k ∧ Hid (clsGo s.data.toList 1 n k set = clsGo s.data.toList 1 (s.data.toList.length + 1) 1 ByteArray.empty) ∧ wr = ((w.alloc (.cells #[.string { data := #[] }, .bool false] 131)).alloc (.cells #[.string set, .bool false] 131)).drewN q) (fun i _ => s.size + 1 - (intOf i).toNat)
  case atStart => exact ⟨1, s.size + 1, 0, ByteArray.empty, rfl, by omega, by omega, by omega, by simp, by rw [Hlen.out]; exact Lib.hid rfl, rfl⟩
  case round =>
    obtain ⟨k, n, q, set, rfl, hk1, hk2, hn, hset, Hgo, rfl⟩ := hrel
    obtain ⟨n, rfl⟩ : ∃ m, n = m + 1 := ⟨n - 1, by omega⟩
    by_cases hlt : k < s.size
    · have E0 := Lib.hid (byteAt_eq s k hlt)
      have x1 : decide ((s.size : Int) ≤ k) = false := by simp; omega
      by_cases h93 : s[k].toNat = 93
      · have hg : goesOn s.data.toList k = false := by unfold goesOn; rw [E0.out]; simp [h93]
        have Hr := Lib.hid (Hgo.out.symm.trans (cg_end hg)); clear hg
        have a1 : (93:Int) ≤ s[k].toNat := by omega
        have a2 : (s[k].toNat : Int) ≤ 93 := by omega
        clear h93
        by_cases hf : k = 1
        · obtain rfl := hf
          go_wp2
          all_goals first | (exfalso; omega) | (refine bodyPost_ret (v := .tuple #[.agg #[.string set, .bool false], .int .i64 0]) (by simp [results, Tryz.results58, go_sem]) rfl ?_; exact cp_none (clsP_end Hf.out Hr.out (Or.inr rfl)) rfl (((below_drewN (((Below.refl _ _).alloc (Nat.le_refl _) _).alloc (by simp) _) _).setCell (Nat.le_refl _) _).setCell (Nat.le_refl _) _))
        · have b1 : 1 < k := by omega
          have b2 : ((k : Int) == 1) = false := by simp; omega
          go_wp2
          all_goals first | (exfalso; omega) | (refine bodyPost_ret (v := .tuple #[.agg #[.string set, .bool false], .int .i64 (k + 1)]) (by simp [results, Tryz.results58, go_sem]) rfl ?_; exact cp_some (clsP_some Hf.out Hr.out (by rw [Hlen.out]; omega)) (by rw [Hi.out]; rfl) (((below_drewN (((Below.refl _ _).alloc (Nat.le_refl _) _).alloc (by simp) _) _).setCell (Nat.le_refl _) _).setCell (Nat.le_refl _) _))
      · have hg : goesOn s.data.toList k = true := by unfold goesOn; rw [E0.out, Hlen.out]; simp [h93]; omega
        have c93 : ((s[k].toNat : Int) != 93) = true := by simp; omega
        rcases hn : namedB s[k] with _ | _
        · have hb : badAt s.data.toList 1 k = true := by unfold badAt; rw [E0.out, hn]; rfl
          have Hr := Lib.hid (Hgo.out.symm.trans (cg_bad hg hb)); clear hg hb
          have Hn := Lib.hid hn; clear hn
          go_wp2_with (go_at_call 57; refine (named_as false _ _ Hn.out).mono ?_; rintro e w' ⟨rfl, rfl⟩)
          all_goals first | (exfalso; omega) | (refine bodyPost_ret (v := .tuple #[.agg #[.string set, .bool false], .int .i64 0]) (by simp [results, Tryz.results58, go_sem]) rfl ?_; exact cp_none (clsP_none Hf.out Hr.out) rfl (((below_drewN (((Below.refl _ _).alloc (Nat.le_refl _) _).alloc (by simp) _) _).setCell (Nat.le_refl _) _).setCell (Nat.le_refl _) _))
        · have Hn := Lib.hid hn
          by_cases h45 : s[k].toNat = 45
          · have a1 : (45:Int) ≤ s[k].toNat := by omega
            have a2 : (s[k].toNat : Int) ≤ 45 := by omega
            by_cases hfk : 1 < k
            · have hb : badAt s.data.toList 1 k = true := by unfold badAt; rw [E0.out]; simp [h45, hfk]
              have Hr := Lib.hid (Hgo.out.symm.trans (cg_bad hg hb)); clear hg hb hn h45
              go_wp2_with (go_at_call 57; refine (named_as true _ _ Hn.out).mono ?_; rintro e w' ⟨rfl, rfl⟩)
              all_goals first | (exfalso; omega) | (refine bodyPost_ret (v := .tuple #[.agg #[.string set, .bool false], .int .i64 0]) (by simp [results, Tryz.results58, go_sem]) rfl ?_; exact cp_none (clsP_none Hf.out Hr.out) rfl (((below_drewN (((Below.refl _ _).alloc (Nat.le_refl _) _).alloc (by simp) _) _).setCell (Nat.le_refl _) _).setCell (Nat.le_refl _) _))
            · have hb : badAt s.data.toList 1 k = false := by unfold badAt; rw [E0.out]; simp [hn, hfk]
              have ho : singleOk s.data.toList k = true := by unfold singleOk; rw [E0.out]; simp [h45]
              have hr := (cg_one hg hb ho).symm.trans Hgo.out
              rw [E0.out] at hr
              have Hr := Lib.hid hr; clear hg hb hn ho hr h45
              go_wp2_with (go_at_call 57; refine (named_as true _ _ Hn.out).mono ?_; rintro e w' ⟨rfl, rfl⟩)
              · exfalso; have z : (Utf8.encode 45).size ≤ 1 := by rw [enc45]; exact Nat.le_refl _
                omega
              · go_roundw
                case rel => exact ⟨k + 1, n, q, set ++ ⟨#[s[k]]⟩, by go_num, by omega, by omega, by omega, by rw [size_append]; show set.size + 1 ≤ _; omega, Hr, by rw [store_last, enc45, show s[k] = 45 from UInt8.toNat_inj.1 (by show s[k].toNat = 45; omega)]⟩
                case measure => simp [intOf]; omega
          · have hb : badAt s.data.toList 1 k = false := by unfold badAt; rw [E0.out]; simp [hn, h45]
            have c45 : ((s[k].toNat : Int) == 45) = false := by simp; omega
            by_cases hl : s.size ≤ k + 1
            · have ho : singleOk s.data.toList k = true := by unfold singleOk; rw [Hlen.out]; simp [hl]
              have hr := (cg_one hg hb ho).symm.trans Hgo.out
              rw [E0.out] at hr
              have Hr := Lib.hid hr; clear hg hb hn ho hr h45
              have x2 : decide ((s.size : Int) ≤ k + 1) = true := by simp; omega
              go_wp2_with (go_at_call 57; refine (named_as true _ _ Hn.out).mono ?_; rintro e w' ⟨rfl, rfl⟩)
              all_goals first | (exfalso; omega) | skip
              · exfalso; have z := encode_ascii_le s[k] (named_small Hn.out); omega
              · go_roundw
                case rel => exact ⟨k + 1, n, q, set ++ ⟨#[s[k]]⟩, by go_num, by omega, by omega, by omega, by rw [size_append]; show set.size + 1 ≤ _; omega, Hr, by rw [store_last, encode_ascii _ (named_small Hn.out)]⟩
                case measure => simp [intOf]; omega
            · have E1 := Lib.hid (byteAt_eq s (k+1) (by omega))
              have x2 : decide ((s.size : Int) ≤ k + 1) = false := by simp; omega
              have x3 : k + 1 < s.size := by omega
              by_cases h45' : s[k+1].toNat = 45
              · have ho : singleOk s.data.toList k = false := by unfold singleOk; rw [Hlen.out, E0.out, E1.out]; simp [h45, h45', hl]
                have c45' : ((s[k+1].toNat : Int) != 45) = false := by simp; omega
                by_cases hl2 : k + 2 < s.size
                · have E2 := Lib.hid (byteAt_eq s (k+2) hl2)
                  have x5 : (k : Int) + 2 < s.size := by omega
                  obtain ⟨v1, hv1⟩ : ∃ v, sortN s[k].toNat = v := ⟨_, rfl⟩
                  have Hv1 := Lib.hid hv1
                  by_cases hp : 0 < v1
                  · have x6 : decide (0 < v1) = true := by simp; omega
                    by_cases hv2 : sortN s[k+2].toNat = v1
                    · have Hv2 := Lib.hid hv2
                      by_cases hle : s[k].toNat ≤ s[k+2].toNat
                      · have hr3 : rangeOk s.data.toList k = true := by unfold rangeOk; rw [Hlen.out, E0.out, E2.out, hv1, hv2]; simp [hl2, hp, hle]
                        have hr := (cg_range hg hb ho hr3).symm.trans Hgo.out
                        rw [E0.out, E2.out] at hr
                        have Hr := Lib.hid hr
                        have z1 := sort_chars (c := s[k]) (by rw [hv1]; exact hp)
                        have z2 := sort_mono (a := s[k]) (b := s[k+2]) (by rw [hv1]; exact hp) (by rw [hv1, hv2]) hle
                        have z3 := betweenB_le s[k] s[k+2]
                        clear hg hb hn ho hr hr3 h45 h45' hv1 hv2
                        have Hle := Lib.hid hle; clear hle
                        go_wp2_with (go_at_call 57; refine (named_as true _ _ Hn.out).mono ?_; rintro e w' ⟨rfl, rfl⟩)
                        have q3 : 0 ≤ (k : Int) + 2 := (by omega); have q2 : ((k : Int) + 2).toNat = k + 2 := (by omega)
                        go_quiet ((go_at_call 81; first | exact quiet_same2 (sort_as v1 _ _ Hv1.out) | exact quiet_same2 (sort_as v1 _ _ Hv2.out)))
                        go_wp2_with fail
                        · have z4 : ¬ 9223372036854775807 < set.size + (betweenB s[k] s[k+2]).size := by omega
                          have q1 : IntKind.i64.wrap ((k : Int) + 2) = k + 2 := IntWalk.i64_in _ (by omega)
                          refine still_tail_drewN 10 (by kernel_rfl) (by kernel_rfl) ?_
                          simp only [List.take_succ_cons, List.take_zero, List.drop_succ_cons, List.drop_zero]
                          iterate 7 still_step
                          still_call ((between_any s[k] s[k+2] _ z1 z2).mono (fun _ _ h => ⟨h.1, h.2.symm⟩))
                          repeat still_step
                          refine wpStill_nil ?_
                          go_wp2
                          go_roundw
                          case rel => exact ⟨k + 3, n, _, set ++ betweenB s[k] s[k+2], by go_num, by omega, by omega, by omega, by rw [size_append]; omega, Hr, by rw [store_last]⟩
                          case measure => simp [intOf]; omega
                        · exfalso; have := Hle.out; omega
                      · have hr3 : rangeOk s.data.toList k = false := by unfold rangeOk; rw [Hlen.out, E0.out, E2.out, hv1, hv2]; simp [hl2, hp, hle]
                        have Hr := Lib.hid (Hgo.out.symm.trans (cg_none hg hb ho hr3))
                        clear hg hb hn ho hr3 h45 h45' hv1 hv2
                        have Hle := Lib.hid hle; clear hle
                        go_wp2_with (go_at_call 57; refine (named_as true _ _ Hn.out).mono ?_; rintro e w' ⟨rfl, rfl⟩)
                        have q3 : 0 ≤ (k : Int) + 2 := (by omega); have q2 : ((k : Int) + 2).toNat = k + 2 := (by omega)
                        go_quiet ((go_at_call 81; first | exact quiet_same2 (sort_as v1 _ _ Hv1.out) | exact quiet_same2 (sort_as v1 _ _ Hv2.out)))
                        go_wp2
                        all_goals first | (exfalso; omega) | (exfalso; have := Hle.out; omega) | (refine bodyPost_ret (v := .tuple #[.agg #[.string set, .bool false], .int .i64 0]) (by simp [results, Tryz.results58, go_sem]) rfl ?_; exact cp_none (clsP_none Hf.out Hr.out) rfl (((below_drewN (((Below.refl _ _).alloc (Nat.le_refl _) _).alloc (by simp) _) _).setCell (Nat.le_refl _) _).setCell (Nat.le_refl _) _))
                    · have hr3 : rangeOk s.data.toList k = false := by unfold rangeOk; rw [Hlen.out, E0.out, E2.out, hv1]; simp; intros; omega
                      have Hr := Lib.hid (Hgo.out.symm.trans (cg_none hg hb ho hr3))
                      obtain ⟨v2, hv3⟩ : ∃ v, sortN s[k+2].toNat = v := ⟨_, rfl⟩
                      have Hv3 := Lib.hid hv3
                      have x6 : decide (0 < v1) = true := by simp; omega
                      have x7 : (v1 == v2) = false := by simp; omega
                      clear hg hb hn ho hr3 h45 h45' hv1 hv2 hv3
                      go_wp2_with (go_at_call 57; refine (named_as true _ _ Hn.out).mono ?_; rintro e w' ⟨rfl, rfl⟩)
                      have q3 : 0 ≤ (k : Int) + 2 := (by omega); have q2 : ((k : Int) + 2).toNat = k + 2 := (by omega)
                      go_quiet ((go_at_call 81; first | exact quiet_same2 (sort_as v1 _ _ Hv1.out) | exact quiet_same2 (sort_as v2 _ _ Hv3.out)))
                      go_wp2
                      all_goals first | (exfalso; omega) | (refine bodyPost_ret (v := .tuple #[.agg #[.string set, .bool false], .int .i64 0]) (by simp [results, Tryz.results58, go_sem]) rfl ?_; exact cp_none (clsP_none Hf.out Hr.out) rfl (((below_drewN (((Below.refl _ _).alloc (Nat.le_refl _) _).alloc (by simp) _) _).setCell (Nat.le_refl _) _).setCell (Nat.le_refl _) _))
                  · have hr3 : rangeOk s.data.toList k = false := by unfold rangeOk; rw [Hlen.out, E0.out, E2.out, hv1]; simp [hp]
                    have Hr := Lib.hid (Hgo.out.symm.trans (cg_none hg hb ho hr3))
                    have x6 : decide (0 < v1) = false := by simp; omega
                    clear hg hb hn ho hr3 h45 h45' hv1
                    go_wp2_with (go_at_call 57; refine (named_as true _ _ Hn.out).mono ?_; rintro e w' ⟨rfl, rfl⟩)
                    have q3 : 0 ≤ (k : Int) + 2 := (by omega); have q2 : ((k : Int) + 2).toNat = k + 2 := (by omega)
                    go_quiet ((go_at_call 81; exact quiet_same2 (sort_as v1 _ _ Hv1.out)))
                    go_wp2
                    all_goals first | (exfalso; omega) | (refine bodyPost_ret (v := .tuple #[.agg #[.string set, .bool false], .int .i64 0]) (by simp [results, Tryz.results58, go_sem]) rfl ?_; exact cp_none (clsP_none Hf.out Hr.out) rfl (((below_drewN (((Below.refl _ _).alloc (Nat.le_refl _) _).alloc (by simp) _) _).setCell (Nat.le_refl _) _).setCell (Nat.le_refl _) _))
                · have hr3 : rangeOk s.data.toList k = false := by unfold rangeOk; rw [Hlen.out]; simp [hl2]
                  have Hr := Lib.hid (Hgo.out.symm.trans (cg_none hg hb ho hr3)); clear hg hb hn ho hr3 h45 h45'
                  have x5 : decide ((k : Int) + 2 < s.size) = false := by simp; omega
                  go_wp2_with (go_at_call 57; refine (named_as true _ _ Hn.out).mono ?_; rintro e w' ⟨rfl, rfl⟩)
                  go_quiet (fail)
                  go_wp2
                  all_goals first | (exfalso; omega) | (refine bodyPost_ret (v := .tuple #[.agg #[.string set, .bool false], .int .i64 0]) (by simp [results, Tryz.results58, go_sem]) rfl ?_; exact cp_none (clsP_none Hf.out Hr.out) rfl (((below_drewN (((Below.refl _ _).alloc (Nat.le_refl _) _).alloc (by simp) _) _).setCell (Nat.le_refl _) _).setCell (Nat.le_refl _) _))
              · have ho : singleOk s.data.toList k = true := by unfold singleOk; rw [Hlen.out, E1.out]; simp [h45']
                have c45' : ((s[k+1].toNat : Int) != 45) = true := by simp; omega
                have hr := (cg_one hg hb ho).symm.trans Hgo.out
                rw [E0.out] at hr
                have Hr := Lib.hid hr; clear hg hb hn ho hr h45
                go_wp2_with (go_at_call 57; refine (named_as true _ _ Hn.out).mono ?_; rintro e w' ⟨rfl, rfl⟩)
                all_goals first | (exfalso; omega) | skip
                · exfalso; have z := encode_ascii_le s[k] (named_small Hn.out); omega
                · go_roundw
                  case rel => exact ⟨k + 1, n, q, set ++ ⟨#[s[k]]⟩, by go_num, by omega, by omega, by omega, by rw [size_append]; show set.size + 1 ≤ _; omega, Hr, by rw [store_last, encode_ascii _ (named_small Hn.out)]⟩
                  case measure => simp [intOf]; omega
    · have hg : goesOn s.data.toList k = false := by unfold goesOn; simp only [Hlen.out]; simp; omega
      have Hr := Lib.hid (Hgo.out.symm.trans (cg_end hg)); clear hg
      go_wp2
      refine bodyPost_ret (v := .tuple #[.agg #[.string set, .bool false], .int .i64 0]) (by simp [results, Tryz.results58, go_sem]) rfl ?_
      exact cp_none (clsP_end Hf.out Hr.out (by rw [Hlen.out]; omega)) rfl (((below_drewN (((Below.refl _ _).alloc (Nat.le_refl _) _).alloc (by simp) _) _).setCell (Nat.le_refl _) _).setCell (Nat.le_refl _) _)

theorem parseClass_any (s : ByteArray) (w : World) (hs : s.size ≤ 1000) (h1 : 1 ≤ s.size) :
    Calls Tryz.prog 58 #[.string s] w (ClassPost s.data.toList w) := by
  rcases h : Lib.hasPrefix s.data.toList [91, 94] with _ | _
  · exact parseClass_false s w hs h1 (Lib.hid h)
  · exact parseClass_true s w hs h1 (Lib.hid h)

end Go.Proofs.YtddiecdoaggaaaaGreatDoor
