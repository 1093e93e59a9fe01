/- Layer 7 as plain functions: classes of chunks, the slab's state and what its calls do to it. -/
namespace Go.Proofs.Ytohnnlimkmofbaa.Slab

def bytesI (k : Int) : Int := if k < 0 then 0 else if 6 ≤ k then 0 else 64 * 2 ^ k.toNat
/-- The class for so many bytes; 6: there is none. -/
def classN (size : Int) : Nat := if size ≤ 64 then 0 else if size ≤ 128 then 1 else if size ≤ 256 then 2 else if size ≤ 512 then 3 else if size ≤ 1024 then 4 else if size ≤ 2048 then 5 else 6

theorem bytes_at (k : Nat) (h : k < 6) : bytesI k = 64 * 2 ^ k := by
  unfold bytesI; rw [if_neg (by omega), if_neg (by omega)]; simp
theorem bytes_pos {k : Nat} (h : k < 6) : 64 ≤ bytesI k ∧ bytesI k ≤ 2048 := by
  rw [bytes_at k h]
  match k, h with
  | 0, _ => decide
  | 1, _ => decide
  | 2, _ => decide
  | 3, _ => decide
  | 4, _ => decide
  | 5, _ => decide
theorem bytes_range (k : Int) : 0 ≤ bytesI k ∧ bytesI k ≤ 2048 := by
  by_cases h : 0 ≤ k ∧ k < 6
  · obtain ⟨n, rfl⟩ := Int.eq_ofNat_of_zero_le h.1
    have := bytes_pos (k := n) (by omega); omega
  · unfold bytesI
    by_cases h0 : k < 0
    · rw [if_pos h0]; omega
    · rw [if_neg h0, if_pos (by omega)]; omega

structure St where
  budget : Int
  used : Int
  inn : List (Int × Int)
  gone : Nat → List Int
  made : Nat → Int

def new (budget : Int) : St := { budget, used := 0, inn := [], gone := fun _ => [], made := fun _ => 0 }
def put {α : Type} (f : Nat → α) (k : Nat) (v : α) : Nat → α := fun j => if j = k then v else f j
theorem put_same {α : Type} (f : Nat → α) (k : Nat) (v : α) : put f k v k = v := if_pos rfl
theorem put_other {α : Type} (f : Nat → α) {k j : Nat} (v : α) (h : j ≠ k) : put f k v j = f j := if_neg h

/-- The number of a chunk of class k that is taken. -/
def St.number (s : St) (k : Nat) : Int × St :=
  match (s.gone k).getLast? with
  | some n => (n, { s with gone := put s.gone k (s.gone k).dropLast })
  | none => (s.made k, { s with made := put s.made k (s.made k + 1) })
def addIn (l : List (Int × Int)) (c : Int × Int) : List (Int × Int) := if c ∈ l then l else l ++ [c]
/-- Take: the chunk, the error. -/
def St.take (s : St) (size : Int) : ((Int × Int) × Int) × St :=
  if classN size = 6 then (((0, 0), 4), s)
  else if s.budget < s.used + bytesI (classN size) then (((0, 0), 5), s)
  else
    let n := (s.number (classN size)).1
    let t := (s.number (classN size)).2
    (((((classN size : Nat) : Int), n), 0), { t with used := s.used + bytesI (classN size), inn := addIn s.inn ((classN size : Nat), n) })
def St.free (s : St) (c : Int × Int) : Int × St :=
  if c ∈ s.inn then (0, { s with inn := s.inn.erase c, gone := put s.gone c.1.toNat (s.gone c.1.toNat ++ [c.2]), used := s.used - bytesI c.1 })
  else (1, s)
def St.fits (s : St) (size less : Int) : Bool := decide (classN size < 6 ∧ 0 ≤ less ∧ less ≤ s.used ∧ s.used - less + bytesI (classN size) ≤ s.budget)
end Go.Proofs.Ytohnnlimkmofbaa.Slab
