/- The walk of the law HashUnlike: for all arguments of its types the call returns true, and nothing that was in memory before is changed. Conditions: none beside the types' own bounds. -/
import Derived.Test.YtpeimkmhooiimaaHashAwake
namespace Go.Proofs.Ytpeimkmhooiimaa.HashUnlike
open Go.RowKit
set_option maxHeartbeats 1000000 in
theorem walk (a b : Int) (ha : 0 ≤ a ∧ a ≤ 18446744073709551615) (hb : 0 ≤ b ∧ b ≤ 18446744073709551615) (w : World) :
    Calls Try.prog 4 #[.int .u64 a, .int .u64 b] w fun e w' => e = .returned (.bool true) ∧ Below w.heap.size w w' := by
  have hk : ((Hash.mixI a == Hash.mixI b) == (a == b)) = true := by
    by_cases e : a = b
    · subst e; simp
    · have : Hash.mixI a ≠ Hash.mixI b := fun h => e (Hash.mixI_back ha.1 (by omega) hb.1 (by omega) h)
      rw [beq_eq_false_iff_ne.2 this, beq_eq_false_iff_ne.2 e]; rfl
  obtain ⟨a0, a1⟩ := ha
  obtain ⟨b0, b1⟩ := hb
  go_enter Try.func4, Try.ntmps4
  go_wp2_with (first
      | (go_at_call 10; refine (Hash.awake_any _).mono ?_; rintro e w' ⟨rfl, rfl⟩)
      | (go_at_call 11; refine (Hash.mix_any _ (by omega) (by omega) _).mono ?_; rintro e w' ⟨rfl, rfl⟩))
  go_ret
  exact ⟨rfl, Below.refl _ _⟩
end Go.Proofs.Ytpeimkmhooiimaa.HashUnlike
