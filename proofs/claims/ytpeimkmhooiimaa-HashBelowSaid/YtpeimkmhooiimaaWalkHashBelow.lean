/- The walk of the law HashBelow: for all arguments of its types the call returns true, and nothing that was in memory before is changed. Conditions: none beside the types' own bounds. -/
import Derived.Test.YtpeimkmhooiimaaHashAwake
namespace Go.Proofs.Ytpeimkmhooiimaa.HashBelow
open Go.RowKit
set_option maxHeartbeats 1000000 in
theorem walk (a n : Int) (ha : 0 ≤ a ∧ a ≤ 18446744073709551615) (hn : -9223372036854775808 ≤ n ∧ n ≤ 9223372036854775807) (w : World) :
    Calls Try.prog 6 #[.int .u64 a, .int .i64 n] w fun e w' => e = .returned (.bool true) ∧ Below w.heap.size w w' := by
  obtain ⟨a0, a1⟩ := ha
  obtain ⟨n0, n1⟩ := hn
  have hr := Hash.belowI_range a n
  by_cases h1 : n < 1
  · have hz : Hash.belowI a n = 0 := by unfold Hash.belowI; rw [if_pos h1]
    have hz1 : (Hash.belowI a n == 0) = true := by rw [hz]; rfl
    have hz2 : 0 ≤ Hash.belowI a n := hr.1
    clear hz hr
    go_enter Try.func6, Try.ntmps6
    go_wp2_with (first
      | (go_at_call 10; refine (Hash.awake_any _).mono ?_; rintro e w' ⟨rfl, rfl⟩)
      | (go_at_call 15; refine (Hash.below_any _ _ (by omega) (by omega) (by omega) _).mono ?_; rintro e w' ⟨rfl, rfl⟩))
    go_ret
    exact ⟨rfl, Below.refl _ _⟩
  · have hz2 : 0 ≤ Hash.belowI a n := hr.1
    have hz3 : Hash.belowI a n < n := hr.2 (by omega)
    clear hr
    go_enter Try.func6, Try.ntmps6
    go_wp2_with (first
      | (go_at_call 10; refine (Hash.awake_any _).mono ?_; rintro e w' ⟨rfl, rfl⟩)
      | (go_at_call 15; refine (Hash.below_any _ _ (by omega) (by omega) (by omega) _).mono ?_; rintro e w' ⟨rfl, rfl⟩))
    go_ret
    exact ⟨rfl, Below.refl _ _⟩
end Go.Proofs.Ytpeimkmhooiimaa.HashBelow
