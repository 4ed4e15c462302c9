/- Plain words, no program: patterns of wildmat. -/
import Derived.Lib.Bytealg
import Derived.Test.YtddiecdoaggaaaaGreatDoorPlainA
namespace Go.Proofs.YtddiecdoaggaaaaGreatDoor

/-- The name characters in increasing order. -/
def chars : List UInt8 := [43, 45, 46, 48, 49, 50, 51, 52, 53, 54, 55, 56, 57, 95, 97, 98, 99, 100, 101, 102, 103, 104, 105, 106, 107, 108, 109, 110, 111, 112, 113, 114, 115, 116, 117, 118, 119, 120, 121, 122]
def charIdx (c : UInt8) : Int := Lib.indexByte chars c
def namedB (c : UInt8) : Bool := decide (0 ≤ charIdx c)
def sortN (c : Nat) : Int := if 97 ≤ c ∧ c ≤ 122 then 1 else if 48 ≤ c ∧ c ≤ 57 then 2 else 0
def charsB : ByteArray := ⟨#[43, 45, 46, 48, 49, 50, 51, 52, 53, 54, 55, 56, 57, 95, 97, 98, 99, 100, 101, 102, 103, 104, 105, 106, 107, 108, 109, 110, 111, 112, 113, 114, 115, 116, 117, 118, 119, 120, 121, 122]⟩
def betweenB (a b : UInt8) : ByteArray := charsB.extract (charIdx a).toNat (charIdx b + 1).toNat

/-- An element of a pattern. -/
inductive Elem where
  | one (c : UInt8)
  | cls (set : ByteArray) (inv : Bool)
  | star

def Elem.has : Elem → UInt8 → Bool
  | .one d, c => d.toNat == c.toNat
  | .cls set inv, c => namedB c && (decide (0 ≤ Lib.indexByte set.data.toList c) != inv)
  | .star, c => namedB c
def Elem.repeats : Elem → Bool
  | .star => true
  | _ => false

theorem indexByte_lt (l : List UInt8) (c : UInt8) : Lib.indexByte l c + 1 ≤ l.length := by
  induction l with
  | nil => simp [Lib.indexByte]
  | cons b l ih => unfold Lib.indexByte; split <;> (try split) <;> simp <;> omega
theorem charIdx_lt (c : UInt8) : charIdx c + 1 ≤ 40 := indexByte_lt chars c
theorem charIdx_ge (c : UInt8) : -1 ≤ charIdx c := Lib.indexByte_ge chars c

theorem indexByte_mem {l : List UInt8} {c : UInt8} (h : 0 ≤ Lib.indexByte l c) : c ∈ l := by
  induction l with
  | nil => simp [Lib.indexByte] at h
  | cons b l ih =>
    unfold Lib.indexByte at h
    split at h
    · rename_i e; simp at e; simp [e]
    · split at h
      · omega
      · rename_i e e2
        have := Lib.indexByte_ge l c
        exact List.mem_cons_of_mem _ (ih (by simp at e2; omega))
theorem named_small {c : UInt8} (h : namedB c = true) : c.toNat < 128 := by
  have hm := indexByte_mem (l := chars) (c := c) (of_decide_eq_true h)
  have : chars.all (fun c => decide (c.toNat < 128)) = true := by decide
  have := List.all_eq_true.1 this c hm
  simpa using this

/-- The byte at a place, 0 behind the end. -/
def byteAt (l : List UInt8) (i : Nat) : UInt8 := l[i]?.getD 0
theorem byteAt_eq (s : ByteArray) (i : Nat) (h : i < s.size) : byteAt s.data.toList i = s[i] := by
  unfold byteAt
  rw [List.getElem?_eq_getElem (by simpa using h)]
  rfl

def rangeOk (l : List UInt8) (i : Nat) : Bool :=
  decide (i + 2 < l.length) && decide (0 < sortN (byteAt l i).toNat) && decide (sortN (byteAt l i).toNat = sortN (byteAt l (i+2)).toNat) && decide ((byteAt l i).toNat ≤ (byteAt l (i+2)).toNat)
def singleOk (l : List UInt8) (i : Nat) : Bool := decide ((byteAt l i).toNat = 45) || decide (l.length ≤ i + 1) || !decide ((byteAt l (i+1)).toNat = 45)
def badAt (l : List UInt8) (first i : Nat) : Bool := !namedB (byteAt l i) || (decide ((byteAt l i).toNat = 45) && decide (first < i))
def goesOn (l : List UInt8) (i : Nat) : Bool := decide (i < l.length) && !decide ((byteAt l i).toNat = 93)

/-- The elements of a class from a place on: the set so far, and where the loop ends. -/
def clsGo (l : List UInt8) (first : Nat) : Nat → Nat → ByteArray → Option (ByteArray × Nat)
  | 0, _, _ => none
  | n + 1, i, set =>
    if goesOn l i then
      if badAt l first i then none
      else if singleOk l i then clsGo l first n (i + 1) (set ++ ⟨#[byteAt l i]⟩)
      else if rangeOk l i then clsGo l first n (i + 3) (set ++ betweenB (byteAt l i) (byteAt l (i+2)))
      else none
    else some (set, i)

theorem cg_end {l first n i set} (h : goesOn l i = false) : clsGo l first (n+1) i set = some (set, i) := by rw [clsGo, if_neg (by simp [h])]
theorem cg_bad {l first n i set} (h : goesOn l i = true) (h1 : badAt l first i = true) : clsGo l first (n+1) i set = none := by rw [clsGo, if_pos h, if_pos h1]
theorem cg_one {l first n i set} (h : goesOn l i = true) (h1 : badAt l first i = false) (h2 : singleOk l i = true) : clsGo l first (n+1) i set = clsGo l first n (i + 1) (set ++ ⟨#[byteAt l i]⟩) := by rw [clsGo, if_pos h, if_neg (by simp [h1]), if_pos h2]
theorem cg_range {l first n i set} (h : goesOn l i = true) (h1 : badAt l first i = false) (h2 : singleOk l i = false) (h3 : rangeOk l i = true) : clsGo l first (n+1) i set = clsGo l first n (i + 3) (set ++ betweenB (byteAt l i) (byteAt l (i+2))) := by rw [clsGo, if_pos h, if_neg (by simp [h1]), if_neg (by simp [h2]), if_pos h3]
theorem cg_none {l first n i set} (h : goesOn l i = true) (h1 : badAt l first i = false) (h2 : singleOk l i = false) (h3 : rangeOk l i = false) : clsGo l first (n+1) i set = none := by rw [clsGo, if_pos h, if_neg (by simp [h1]), if_neg (by simp [h2]), if_neg (by simp [h3])]

def clsInv (l : List UInt8) : Bool := Lib.hasPrefix l [91, 94]
def clsFirst (l : List UInt8) : Nat := if clsInv l then 2 else 1
/-- What parseClass finds: the set, and the length; none: there is no class. -/
def clsP (l : List UInt8) : Option (ByteArray × Nat) :=
  match clsGo l (clsFirst l) (l.length + 1) (clsFirst l) ByteArray.empty with
  | none => none
  | some (set, i) => if l.length ≤ i ∨ i = clsFirst l then none else some (set, i + 1)

end Go.Proofs.YtddiecdoaggaaaaGreatDoor
