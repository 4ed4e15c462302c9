/- Plain words, no program: the characters and names of sites. -/
namespace Go.Proofs.YtddiecdoaggaaaaGreatDoor

def isDigit (c : Int) : Bool := decide (48 ≤ c) && decide (c ≤ 57)
def isLower (c : Int) : Bool := decide (97 ≤ c) && decide (c ≤ 122)
def sitePermitted (c : Int) : Bool := isLower c || isDigit c || c == 45 || c == 46

/-- The first index below n at which p holds, or n. -/
def firstIdx (p : Nat → Bool) (n : Nat) : Nat := ((List.range n).find? p).getD n

theorem firstIdx_found {p : Nat → Bool} {n k : Nat} (hk : k < n) (hp : p k = true) (hl : ∀ j, j < k → p j = false) : firstIdx p n = k := by
  unfold firstIdx
  have : (List.range n).find? p = some k := by
    rw [List.find?_range_eq_some]
    exact ⟨hp, by simpa using hk, fun j hj => by simp [hl j hj]⟩
  rw [this]; rfl

theorem firstIdx_none {p : Nat → Bool} {n : Nat} (hl : ∀ j, j < n → p j = false) : firstIdx p n = n := by
  unfold firstIdx
  have : (List.range n).find? p = none := by
    rw [List.find?_range_eq_none]
    intro j hj; simp [hl j hj]
  rw [this]; rfl

/-- The byte at a place, 0 behind the end. -/
def at8 (l : List UInt8) (i : Nat) : Nat := (l[i]?.getD 0).toNat

theorem at8_byte (s : ByteArray) (i : Nat) (h : i < s.size) : at8 s.data.toList i = s[i].toNat := by
  unfold at8
  rw [List.getElem?_eq_getElem (by simpa using h)]
  rfl

def misplacedB (l : List UInt8) (i : Nat) : Bool :=
  if i = 0 then !isLower (at8 l i)
  else if at8 l i = 46 ∧ at8 l (i-1) = 46 then true
  else decide (i + 1 = l.length) && (decide (at8 l i = 45) || decide (at8 l i = 46))

def siteRes (l : List UInt8) : Nat × Nat :=
  if l = [] then (0, 4)
  else if 30 < l.length then (30, 5)
  else if firstIdx (fun i => !sitePermitted (at8 l i)) l.length < l.length then (firstIdx (fun i => !sitePermitted (at8 l i)) l.length, 6)
  else if firstIdx (misplacedB l) l.length < l.length then (firstIdx (misplacedB l) l.length, 12)
  else (0, 0)

end Go.Proofs.YtddiecdoaggaaaaGreatDoor
