/- Plain laws of a bloom filter: what an addition turns, what is kept, what texts leave. -/
import Derived.Test.YtncdaadiadeeiaaSpecBloom
namespace Go.Proofs.Ytncdaadiadeeiaa.Bloom
open Go Go.Proofs.Ytncdaadiadeeiaa.Hash

theorem bit_adds_had {seed : Int} {s : List UInt8} {w : Nat → Nat} {n : Nat} (h : hasTo seed s w n = true) (q : Nat) : bit (adds seed s w n) q = bit w q := by
  rw [hasTo_iff] at h
  rw [Bool.eq_iff_iff, bit_adds]
  constructor
  · rintro (h1 | ⟨i, h1, rfl⟩)
    · exact h1
    · exact h i h1
  · exact .inl
theorem ones_adds (seed : Int) (s : List UInt8) (w : Nat → Nat) (n : Nat) : ones w 512 ≤ ones (adds seed s w n) 512 ∧ ones (adds seed s w n) 512 ≤ ones w 512 + n ∧ (ones (adds seed s w n) 512 = ones w 512 ↔ hasTo seed s w n = true) := by
  induction n with
  | zero => simp [adds, hasTo]
  | succ n ih =>
    obtain ⟨h1, h2, h3⟩ := ih
    have hp := pl_lt seed s n
    have hs : ones (adds seed s w (n + 1)) 512 = ones (adds seed s w n) 512 + if pl seed s n < 512 ∧ bit (adds seed s w n) (pl seed s n) = false then 1 else 0 := ones_setB _ _ _
    have hh : hasTo seed s w (n + 1) = (hasTo seed s w n && bit w (pl seed s n)) := rfl
    rw [hs, hh]
    refine ⟨by omega, by split <;> omega, ?_⟩
    cases ht : hasTo seed s w n
    · have hne : ones (adds seed s w n) 512 ≠ ones w 512 := fun e => by rw [h3.1 e] at ht; cases ht
      simp only [Bool.false_and]
      constructor
      · intro e; split at e <;> omega
      · intro e; cases e
    · have he := h3.2 ht
      rw [bit_adds_had ht, he]
      simp only [Bool.true_and, hp, true_and]
      cases hb : bit w (pl seed s n) <;> simp
theorem add_ones (k : St) (s : List UInt8) : k.ones ≤ (k.add s).ones ∧ (k.add s).ones ≤ k.ones + 3 ∧ ((k.add s).ones = k.ones ↔ k.has s = true) := ones_adds k.seed s k.w 3
theorem has_add (k : St) (s : List UInt8) : (k.add s).has s = true := by
  unfold St.has St.add
  rw [hasTo_iff]
  exact fun i hi => (bit_adds _ _ _ _ _).2 (.inr ⟨i, hi, rfl⟩)
theorem has_mono {k : St} {t : List UInt8} (s : List UInt8) (h : k.has t = true) : (k.add s).has t = true := by
  unfold St.has St.add at *
  rw [hasTo_iff] at *
  exact fun i hi => (bit_adds _ _ _ _ _).2 (.inl (h i hi))
theorem has_none (seed : Int) (s : List UInt8) : hasTo seed s (fun _ => 0) 3 = false := by
  cases h : hasTo seed s (fun _ => 0) 3
  · rfl
  · have := (hasTo_iff _ _ _ _).1 h 0 (by omega)
    simp [bit] at this
theorem has_new (seed : Int) (s : List UInt8) : (new seed).has s = false := has_none seed s
theorem has_clear (k : St) (s : List UInt8) : k.clear.has s = false := has_none k.seed s
theorem ones_clear (k : St) : k.clear.ones = 0 := ones_zero 512
theorem ones_new (seed : Int) : (new seed).ones = 0 := ones_zero 512
theorem ones_full {k : St} (h : 512 ≤ k.ones) (s : List UInt8) : k.has s = true := by
  have hle := ones_le k.w 512
  have he : (List.range 512).countP (fun p => bit k.w p) = (List.range 512).length := by
    have : k.ones = 512 := by unfold St.ones at h ⊢; omega
    rw [List.length_range]; exact this
  rw [List.countP_eq_length] at he
  unfold St.has
  rw [hasTo_iff]
  exact fun i _ => he _ (List.mem_range.2 (pl_lt _ _ _))
/-- Just the places of some texts are set. -/
def Of (k : St) (M : List UInt8 → Prop) : Prop := ∀ p, bit k.w p = true ↔ ∃ t, M t ∧ ∃ i, i < 3 ∧ p = pl k.seed t i
theorem Of.new (seed : Int) : Of (new seed) (fun _ => False) := fun p => by simp [Bloom.new, bit]
theorem Of.add {k : St} {M : List UInt8 → Prop} (h : Of k M) (s : List UInt8) : Of (k.add s) (fun t => M t ∨ t = s) := fun p => by
  unfold St.add
  simp only
  rw [bit_adds, h p]
  constructor
  · rintro (⟨t, h1, h2⟩ | ⟨i, h1, h2⟩)
    · exact ⟨t, .inl h1, h2⟩
    · exact ⟨s, .inr rfl, i, h1, h2⟩
  · rintro ⟨t, h1 | rfl, h2⟩
    · exact .inl ⟨t, h1, h2⟩
    · exact .inr h2
theorem Of.congr {k : St} {M N : List UInt8 → Prop} (h : Of k M) (hMN : ∀ t, M t ↔ N t) : Of k N := fun p => by
  rw [h p]
  constructor
  · rintro ⟨t, h1, h2⟩; exact ⟨t, (hMN t).1 h1, h2⟩
  · rintro ⟨t, h1, h2⟩; exact ⟨t, (hMN t).2 h1, h2⟩
theorem Of.alike {k j : St} {M : List UInt8 → Prop} (h : Of k M) (g : Of j M) (he : k.seed = j.seed) : k.ones = j.ones ∧ ∀ s, k.has s = j.has s := by
  have hb : ∀ p, bit k.w p = bit j.w p := fun p => by rw [Bool.eq_iff_iff, h p, g p, he]
  refine ⟨ones_ext 512 fun p _ => hb p, fun s => ?_⟩
  unfold St.has
  rw [Bool.eq_iff_iff, hasTo_iff, hasTo_iff, he]
  simp only [hb]
theorem add_seed (k : St) (s : List UInt8) : (k.add s).seed = k.seed := rfl
end Go.Proofs.Ytncdaadiadeeiaa.Bloom
