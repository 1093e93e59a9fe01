/- A sketch of layer 5 as plain functions: 4 rows of 64 counters, up to 15; an age. -/
import Derived.Test.YtncdaadiadeeiaaSpecHash
namespace Go.Proofs.Ytncdaadiadeeiaa.Sketch
open Go Go.Proofs.Ytncdaadiadeeiaa.Hash

structure St where
  seed : Int
  c : Nat → Nat
  age : Int
def new (seed : Int) : St := ⟨seed, fun _ => 0, 0⟩
/-- Where a text is counted in a row. -/
def col (seed : Int) (s : List UInt8) (row : Nat) : Nat := (belowI (nthI seed s row) 64).toNat
def pl (seed : Int) (s : List UInt8) (row : Nat) : Nat := row * 64 + col seed s row
theorem col_lt (seed : Int) (s : List UInt8) (row : Nat) : col seed s row < 64 := by
  have := belowI_range (nthI seed s row) 64
  unfold col; have := this.2 (by omega); omega
theorem col_int (seed : Int) (s : List UInt8) (row : Nat) : belowI (nthI seed s row) 64 = (col seed s row : Nat) := by
  have := belowI_range (nthI seed s row) 64
  unfold col; omega
def up (c : Nat → Nat) (i : Nat) : Nat → Nat := fun k => if k = i ∧ c i < 15 then c i + 1 else c k
def ups (seed : Int) (s : List UInt8) (c : Nat → Nat) : Nat → Nat → Nat
  | 0 => c
  | n + 1 => up (ups seed s c n) (pl seed s n)
def half (c : Nat → Nat) : Nat → Nat := fun k => c k / 2
def St.add (k : St) (s : List UInt8) : Bool × St :=
  if k.age + 1 < 640 then (false, { k with c := ups k.seed s k.c 4, age := k.age + 1 }) else (true, { k with c := half (ups k.seed s k.c 4), age := 320 })
def cnt (seed : Int) (s : List UInt8) (c : Nat → Nat) : Nat → Nat
  | 0 => 15
  | n + 1 => min (cnt seed s c n) (c (pl seed s n))
def St.count (k : St) (s : List UInt8) : Nat := cnt k.seed s k.c 4

structure Ok (k : St) : Prop where
  c15 : ∀ i, k.c i ≤ 15
  a0 : 0 ≤ k.age
  a1 : k.age < 640
  s0 : 0 ≤ k.seed
  s1 : k.seed < 18446744073709551616

theorem up_self (c : Nat → Nat) (i : Nat) : up c i i = min 15 (c i + 1) ∨ 15 < c i := by unfold up; by_cases h : c i < 15 <;> simp [h] <;> omega
theorem up_other {c : Nat → Nat} {i k : Nat} (h : k ≠ i) : up c i k = c k := by unfold up; simp [h]
theorem up_ge (c : Nat → Nat) (i k : Nat) : c k ≤ up c i k := by
  unfold up; split
  · rename_i h; rw [h.1]; omega
  · omega
theorem up_le (c : Nat → Nat) (i k : Nat) : up c i k ≤ c k + 1 := by
  unfold up; split
  · rename_i h; rw [h.1]; omega
  · omega
theorem up_15 {c : Nat → Nat} (h : ∀ k, c k ≤ 15) (i k : Nat) : up c i k ≤ 15 := by
  unfold up; split
  · omega
  · exact h k
theorem pl_row {seed : Int} {s t : List UInt8} {a b : Nat} (h : pl seed s a = pl seed t b) : a = b := by
  have h1 := col_lt seed s a
  have h2 := col_lt seed t b
  unfold pl at h; omega
theorem ups_at (seed : Int) (s : List UInt8) (c : Nat → Nat) (n k : Nat) : ups seed s c n k = if ∃ a, a < n ∧ k = pl seed s a ∧ c k < 15 then c k + 1 else c k := by
  induction n with
  | zero => simp [ups]
  | succ n ih =>
    unfold ups
    by_cases hk : k = pl seed s n
    · have hno : ups seed s c n k = c k := by
        rw [ih, if_neg]
        rintro ⟨a, ha, h1, _⟩
        have := pl_row (h1.symm.trans hk)
        omega
      unfold up
      rw [← hk, hno]
      by_cases h15 : c k < 15
      · rw [if_pos ⟨rfl, h15⟩, if_pos ⟨n, by omega, hk, h15⟩]
      · rw [if_neg (fun h => h15 h.2), if_neg]
        rintro ⟨_, _, _, h⟩; exact h15 h
    · rw [up_other hk, ih]
      by_cases he : ∃ a, a < n ∧ k = pl seed s a ∧ c k < 15
      · obtain ⟨a, h1, h2, h3⟩ := he
        rw [if_pos ⟨a, h1, h2, h3⟩, if_pos ⟨a, by omega, h2, h3⟩]
      · rw [if_neg he, if_neg]
        rintro ⟨a, h1, h2, h3⟩
        by_cases han : a = n
        · exact hk (han ▸ h2)
        · exact he ⟨a, by omega, h2, h3⟩
theorem ups_ge (seed : Int) (s : List UInt8) (c : Nat → Nat) (n k : Nat) : c k ≤ ups seed s c n k := by rw [ups_at]; split <;> omega
theorem ups_le (seed : Int) (s : List UInt8) (c : Nat → Nat) (n k : Nat) : ups seed s c n k ≤ c k + 1 := by rw [ups_at]; split <;> omega
theorem ups_15 {c : Nat → Nat} (h : ∀ k, c k ≤ 15) (seed : Int) (s : List UInt8) (n k : Nat) : ups seed s c n k ≤ 15 := by
  rw [ups_at]; split
  · rename_i h1; obtain ⟨_, _, _, h1⟩ := h1; omega
  · exact h k
theorem ups_own (seed : Int) (s : List UInt8) {c : Nat → Nat} (h : ∀ k, c k ≤ 15) {n a : Nat} (ha : a < n) : ups seed s c n (pl seed s a) = min 15 (c (pl seed s a) + 1) := by
  rw [ups_at]
  have := h (pl seed s a)
  split
  · rename_i h1; obtain ⟨_, _, _, h1⟩ := h1; omega
  · rename_i h1
    have : ¬ c (pl seed s a) < 15 := fun h15 => h1 ⟨a, ha, rfl, h15⟩
    omega
theorem cnt_le15 (seed : Int) (s : List UInt8) (c : Nat → Nat) (n : Nat) : cnt seed s c n ≤ 15 := by
  induction n with
  | zero => exact Nat.le_refl _
  | succ n ih => unfold cnt; omega
theorem cnt_le (seed : Int) (s : List UInt8) (c : Nat → Nat) {n a : Nat} (ha : a < n) : cnt seed s c n ≤ c (pl seed s a) := by
  induction n with
  | zero => omega
  | succ n ih =>
    unfold cnt
    by_cases h : a = n
    · subst h; omega
    · have := ih (by omega); omega
theorem le_cnt {seed : Int} {s : List UInt8} {c : Nat → Nat} {n x : Nat} (hx : x ≤ 15) (h : ∀ a, a < n → x ≤ c (pl seed s a)) : x ≤ cnt seed s c n := by
  induction n with
  | zero => exact hx
  | succ n ih =>
    unfold cnt
    have := h n (by omega)
    have := ih (fun a ha => h a (by omega))
    omega
theorem Ok.new {seed : Int} (h0 : 0 ≤ seed) (h1 : seed < 18446744073709551616) : Ok (new seed) := ⟨fun _ => by simp [Sketch.new], by simp [Sketch.new], by simp [Sketch.new], h0, h1⟩
theorem Ok.add {k : St} (h : Ok k) (s : List UInt8) : Ok (k.add s).2 := by
  have h15 := fun i => ups_15 h.c15 k.seed s 4 i
  have := h.a0
  unfold St.add
  split
  · rename_i hl
    exact ⟨h15, by simp; omega, hl, h.s0, h.s1⟩
  · exact ⟨fun i => by have := h15 i; simp only [half]; omega, by simp, by simp, h.s0, h.s1⟩
theorem add_seed (k : St) (s : List UInt8) : (k.add s).2.seed = k.seed := by unfold St.add; split <;> rfl

/-- Two counters in a byte. -/
def byt (c : Nat → Nat) (j : Nat) : Int := (c (2 * j) + 16 * c (2 * j + 1) : Nat)
end Go.Proofs.Ytncdaadiadeeiaa.Sketch
