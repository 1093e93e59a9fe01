/- A bloom filter of layer 4 as plain functions: 8 words of 64 bits. -/
import Derived.Test.YtncdaadiadeeiaaSpecHash
namespace Go.Proofs.Ytncdaadiadeeiaa.Bloom
open Go Go.Proofs.Ytncdaadiadeeiaa.Hash

structure St where
  seed : Int
  w : Nat → Nat
def new (seed : Int) : St := ⟨seed, fun _ => 0⟩
def pl (seed : Int) (s : List UInt8) (i : Nat) : Nat := (belowI (nthI seed s i) 512).toNat
theorem pl_lt (seed : Int) (s : List UInt8) (i : Nat) : pl seed s i < 512 := by
  have := (belowI_range (nthI seed s i) 512).2 (by omega)
  unfold pl; omega
theorem pl_int (seed : Int) (s : List UInt8) (i : Nat) : belowI (nthI seed s i) 512 = (pl seed s i : Nat) := by
  have := (belowI_range (nthI seed s i) 512).1
  unfold pl; omega
def bit (w : Nat → Nat) (p : Nat) : Bool := (w (p / 64)).testBit (p % 64)
def setB (w : Nat → Nat) (p : Nat) : Nat → Nat := fun j => if j = p / 64 then w j ||| 2 ^ (p % 64) else w j
theorem bit_setB (w : Nat → Nat) (p q : Nat) : bit (setB w p) q = (bit w q || decide (q = p)) := by
  unfold bit setB
  by_cases h : q / 64 = p / 64
  · rw [if_pos h, Nat.testBit_or, Nat.testBit_two_pow]
    congr 1
    exact decide_eq_decide.2 (by omega)
  · rw [if_neg h]
    have : ¬ q = p := fun e => h (by rw [e])
    simp [this]
def adds (seed : Int) (s : List UInt8) (w : Nat → Nat) : Nat → Nat → Nat
  | 0 => w
  | n + 1 => setB (adds seed s w n) (pl seed s n)
theorem bit_adds (seed : Int) (s : List UInt8) (w : Nat → Nat) (n q : Nat) : bit (adds seed s w n) q = true ↔ bit w q = true ∨ ∃ i, i < n ∧ q = pl seed s i := by
  induction n with
  | zero => simp [adds]
  | succ n ih =>
    unfold adds
    rw [bit_setB, Bool.or_eq_true, ih, decide_eq_true_eq]
    constructor
    · rintro ((h | ⟨i, h1, h2⟩) | h)
      · exact .inl h
      · exact .inr ⟨i, by omega, h2⟩
      · exact .inr ⟨n, by omega, h⟩
    · rintro (h | ⟨i, h1, h2⟩)
      · exact .inl (.inl h)
      · by_cases hin : i = n
        · exact .inr (hin ▸ h2)
        · exact .inl (.inr ⟨i, by omega, h2⟩)
/-- Are the first n places of a text set? -/
def hasTo (seed : Int) (s : List UInt8) (w : Nat → Nat) : Nat → Bool
  | 0 => true
  | n + 1 => hasTo seed s w n && bit w (pl seed s n)
theorem hasTo_iff (seed : Int) (s : List UInt8) (w : Nat → Nat) (n : Nat) : hasTo seed s w n = true ↔ ∀ i, i < n → bit w (pl seed s i) = true := by
  induction n with
  | zero => simp [hasTo]
  | succ n ih =>
    unfold hasTo
    rw [Bool.and_eq_true, ih]
    constructor
    · rintro ⟨h1, h2⟩ i hi
      by_cases h : i = n
      · exact h ▸ h2
      · exact h1 i (by omega)
    · exact fun h => ⟨fun i hi => h i (by omega), h n (by omega)⟩
def St.has (k : St) (s : List UInt8) : Bool := hasTo k.seed s k.w 3
def St.add (k : St) (s : List UInt8) : St := { k with w := adds k.seed s k.w 3 }
def St.clear (k : St) : St := { k with w := fun _ => 0 }
def ones (w : Nat → Nat) (n : Nat) : Nat := (List.range n).countP fun p => bit w p
def St.ones (k : St) : Nat := Bloom.ones k.w 512
structure Ok (k : St) : Prop where
  w : ∀ j, k.w j < 18446744073709551616
  s0 : 0 ≤ k.seed
  s1 : k.seed < 18446744073709551616
theorem setB_lt {w : Nat → Nat} (h : ∀ j, w j < 18446744073709551616) (p : Nat) : ∀ j, setB w p j < 18446744073709551616 := fun j => by
  unfold setB
  split
  · exact Nat.or_lt_two_pow (n := 64) (h j) (Nat.pow_lt_pow_right (by omega) (by omega))
  · exact h j
theorem adds_lt {w : Nat → Nat} (h : ∀ j, w j < 18446744073709551616) (seed : Int) (s : List UInt8) (n : Nat) : ∀ j, adds seed s w n j < 18446744073709551616 := by
  induction n with
  | zero => exact h
  | succ n ih => exact setB_lt ih _
theorem Ok.new {seed : Int} (h0 : 0 ≤ seed) (h1 : seed < 18446744073709551616) : Ok (new seed) := ⟨fun _ => by simp [Bloom.new], h0, h1⟩
theorem Ok.add {k : St} (h : Ok k) (s : List UInt8) : Ok (k.add s) := ⟨adds_lt h.w _ _ _, h.s0, h.s1⟩
theorem Ok.clear {k : St} (h : Ok k) : Ok k.clear := ⟨fun _ => by simp [St.clear], h.s0, h.s1⟩

theorem ones_ext {w v : Nat → Nat} (n : Nat) (h : ∀ p, p < n → bit w p = bit v p) : ones w n = ones v n := by
  unfold ones
  refine List.countP_congr fun p hp => ?_
  rw [h p (by simpa using hp)]
theorem ones_zero (n : Nat) : ones (fun _ => 0) n = 0 := by
  unfold ones
  rw [List.countP_eq_zero]
  intro p _
  simp [bit]
theorem ones_succ (w : Nat → Nat) (n : Nat) : ones w (n + 1) = ones w n + if bit w n then 1 else 0 := by
  unfold ones
  rw [List.range_succ, List.countP_append]
  simp [List.countP_cons]
theorem ones_setB (w : Nat → Nat) (p n : Nat) : ones (setB w p) n = ones w n + if p < n ∧ bit w p = false then 1 else 0 := by
  induction n with
  | zero => simp [ones]
  | succ n ih =>
    rw [ones_succ, ones_succ, ih, bit_setB]
    by_cases hpn : n = p
    · subst hpn
      cases hb : bit w n <;> simp
    · have hd : decide (n = p) = false := by simpa using hpn
      rw [hd, Bool.or_false]
      by_cases hlt : p < n
      · have h1 : p < n + 1 := by omega
        simp only [hlt, h1, true_and]
        omega
      · have h1 : ¬ p < n + 1 := by omega
        simp only [hlt, h1, false_and, if_false]
        omega
theorem ones_mono {w v : Nat → Nat} (n : Nat) (h : ∀ p, bit w p = true → bit v p = true) : ones w n ≤ ones v n := by
  induction n with
  | zero => simp [ones]
  | succ n ih =>
    rw [ones_succ, ones_succ]
    cases hb : bit w n
    · simp; omega
    · rw [h n hb]; simp; omega
theorem ones_le (w : Nat → Nat) (n : Nat) : ones w n ≤ n := by
  have := @List.countP_le_length _ (fun p => bit w p) (List.range n)
  simpa [ones] using this
end Go.Proofs.Ytncdaadiadeeiaa.Bloom
