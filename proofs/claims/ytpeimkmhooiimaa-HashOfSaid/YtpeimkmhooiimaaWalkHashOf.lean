/- The walk of the law HashOf: for all arguments of its types the call returns true, and nothing that was in memory before is changed. Conditions: none beside the types' own bounds. -/
import Derived.Test.YtpeimkmhooiimaaHashAwake
import Derived.Test.YtpeimkmhooiimaaHashRef
namespace Go.Proofs.Ytpeimkmhooiimaa.HashOf
open Go.RowKit
set_option maxHeartbeats 1000000 in
theorem walk (a : Int) (s : ByteArray) (n : Int) (ha : 0 ≤ a ∧ a ≤ 18446744073709551615) (hs : s.size ≤ maxLen) (hn : -9223372036854775808 ≤ n ∧ n ≤ 9223372036854775807) (w : World) :
    Calls Try.prog 3 #[.int .u64 a, .string s, .int .i64 n] w fun e w' => e = .returned (.bool true) ∧ Below w.heap.size w w' := by
  obtain ⟨a0, a1⟩ := ha
  obtain ⟨n0, n1⟩ := hn
  have hs' := hs
  unfold maxLen at hs'
  by_cases hl : 5000 < s.size
  · go_enter Try.func3, Try.ntmps3
    go_wp2_with (go_at_call 10; refine (Hash.awake_any _).mono ?_; rintro e w' ⟨rfl, rfl⟩)
    go_ret
    exact ⟨rfl, Below.refl _ _⟩
  · go_enter Try.func3, Try.ntmps3
    go_wp2_with (first
      | (go_at_call 10; refine (Hash.awake_any _).mono ?_; rintro e w' ⟨rfl, rfl⟩)
      | (go_at_call 11; refine (Hash.mix_any _ (by omega) (by omega) _).mono ?_; rintro e w' ⟨rfl, rfl⟩)
      | (go_at_call 12; refine (HashRef.mix_any _ (by omega) (by omega) _).mono ?_; rintro e w' ⟨rfl, rfl⟩)
      | (go_at_call 13; refine (Hash.of_any _ _ (by omega) (by omega) hs _).mono ?_; rintro e w' ⟨rfl, rfl⟩)
      | (go_at_call 14; refine (HashRef.of_any _ _ (by omega) (by omega) hs _).mono ?_; rintro e w' ⟨rfl, rfl⟩)
      | (go_at_call 15; refine (Hash.below_any _ _ (by omega) (by omega) (by omega) _).mono ?_; rintro e w' ⟨rfl, rfl⟩)
      | (go_at_call 16; refine (HashRef.below_any _ _ (by omega) (by omega) (by omega) _).mono ?_; rintro e w' ⟨rfl, rfl⟩))
    go_ret
    exact ⟨rfl, Below.refl _ _⟩
end Go.Proofs.Ytpeimkmhooiimaa.HashOf
