/- SlabClasses answers true for every size and class. Conditions: the two are ints. -/
import Derived.Test.YtohnnlimkmofbaaSlabAwake
import Derived.Test.YtohnnlimkmofbaaSlabRef1
namespace Go.Proofs.Ytohnnlimkmofbaa.SlabClasses
open Go Go.RowKit Go.Proofs.Ytohnnlimkmofbaa.Slab

/-- The plain law: a size fits its class, and not the one below. -/
theorem fits (size : Int) (h : classE size = 0) : size ≤ bytesI (classR size) ∧ (bytesI (classR size - 1) < size ∨ classR size = 0) := by
  have h6 := class_six size
  have hn : classN size < 6 := by
    rcases Nat.lt_or_ge (classN size) 6 with h1 | h1
    · exact h1
    · have : classN size = 6 := by omega
      unfold classE at h; rw [if_pos this] at h; cases h
  have hr : classR size = (classN size : Nat) := by unfold classR; rw [if_neg (by omega)]
  rw [hr]
  have h1 := (class_le size _ hn).2 (Nat.le_refl _)
  refine ⟨h1, ?_⟩
  rcases Nat.eq_zero_or_pos (classN size) with h0 | h0
  · exact .inr (by omega)
  · left
    have e : ((classN size : Nat) : Int) - 1 = ((classN size - 1 : Nat) : Int) := by omega
    rw [e]
    have := mt (class_le size (classN size - 1) (by omega)).1 (by omega)
    omega

set_option maxHeartbeats 1000000 in
theorem walk (size k : Int) (_ : -9223372036854775808 ≤ size ∧ size ≤ 9223372036854775807) (_ : -9223372036854775808 ≤ k ∧ k ≤ 9223372036854775807) (W : World) :
    Calls Try.prog 3 #[.int .i64 size, .int .i64 k] W fun e W' => e = .returned (.bool true) ∧ Below W.heap.size W W' := by
  have hcr : 0 ≤ classR size ∧ classR size ≤ 6 := by have := class_six size; unfold classR; split <;> omega
  have hw : IntKind.i64.wrap (classR size - 1) = classR size - 1 := by rw [IntKind.wrap_i64]; omega
  have hf := fits size
  have hce : classE size = 0 ∨ classE size = 4 := by unfold classE; split; exact .inr rfl; exact .inl rfl
  have hb2 := bytes_range (classR size - 1)
  have HF := Lib.hid hf
  obtain ⟨r, hr⟩ : ∃ r, classR size = r := ⟨_, rfl⟩
  obtain ⟨c, hc⟩ : ∃ c, classE size = c := ⟨_, rfl⟩
  have CA := fun w => class_any size w
  have RA := fun w => rclass_any size w
  rw [hr] at hcr hw hf HF hb2
  rw [hc] at hf HF hce
  simp only [hr, hc] at CA RA
  clear hr hc hf
  obtain ⟨x, hx⟩ : ∃ x, bytesI r = x := ⟨_, rfl⟩
  obtain ⟨y, hy⟩ : ∃ y, bytesI (r - 1) = y := ⟨_, rfl⟩
  have B1 := fun w => bytes_any r w
  have B2 := fun w => bytes_any (r - 1) w
  rw [hx, hy] at HF
  simp only [hx] at B1
  simp only [hy] at B2
  have hxy : c = 0 → (decide (size ≤ x) = true ∧ (decide (y < size) = true ∨ (r == 0) = true)) := fun h => by
    have := HF.out h
    simpa using this
  clear hx hy hb2
  go_enter Try.func3, Try.ntmps3
  go_wp2_with (first | (go_at_call 8; refine (awake_any _).mono ?_; rintro e w1 ⟨rfl, hb⟩) | (go_at_call 9; refine (CA _).mono ?_; rintro e w' ⟨rfl, rfl⟩) | (go_at_call 10; refine (RA _).mono ?_; rintro e w' ⟨rfl, rfl⟩))
  have K1 := fun w => bytes_any k w
  have K2 := fun w => rbytes_any k w
  generalize bytesI k = z at *
  clear HF
  go_wp2_with fail
  refine (K1 _).mono ?_
  rintro e w' ⟨rfl, rfl⟩
  go_wp2_with fail
  refine (K2 _).mono ?_
  rintro e w' ⟨rfl, rfl⟩
  rcases hce with rfl | rfl
  · obtain ⟨h1, h2⟩ := hxy rfl
    have h1' : size ≤ x := by simpa using h1
    clear hxy h1
    go_wp2_with fail
    refine (B1 _).mono ?_
    rintro e w' ⟨rfl, rfl⟩
    go_wp2_with fail
    refine (B2 _).mono ?_
    rintro e w' ⟨rfl, rfl⟩
    by_cases hy : y < size
    · clear h2
      go_wp2_with fail
      go_ret
      exact ⟨rfl, hb⟩
    · have h2' : (r == 0) = true := h2.elim (fun e => absurd (by simpa using e) hy) id
      clear h2
      go_wp2_with fail
      go_ret
      exact ⟨rfl, hb⟩
  · clear hxy
    go_wp2_with fail
    go_ret
    exact ⟨rfl, hb⟩
end Go.Proofs.Ytohnnlimkmofbaa.SlabClasses
