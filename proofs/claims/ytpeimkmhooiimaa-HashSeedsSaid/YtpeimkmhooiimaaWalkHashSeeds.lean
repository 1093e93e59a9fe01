/- The walk of the law HashSeeds: for all arguments of its types the call returns true, and nothing that was in memory before is changed. Conditions: none beside the types' own bounds. -/
import Derived.Test.YtpeimkmhooiimaaHashAwake
import Derived.Laws.BytesArg
namespace Go.Proofs.Ytpeimkmhooiimaa.HashSeeds
open Go.RowKit
set_option maxHeartbeats 1000000 in
theorem walk (a b c : Int) (ha : 0 ≤ a ∧ a ≤ 18446744073709551615) (hb : 0 ≤ b ∧ b ≤ 18446744073709551615) (hc : 0 ≤ c ∧ c ≤ 255) (w : World) :
    Calls Try.prog 7 #[.int .u64 a, .int .u64 b, .int .u8 c] w fun e w' => e = .returned (.bool true) ∧ Below w.heap.size w w' := by
  obtain ⟨a0, a1⟩ := ha
  obtain ⟨b0, b1⟩ := hb
  obtain ⟨c0, c1⟩ := hc
  by_cases e : a = b
  · subst e
    go_enter Try.func7, Try.ntmps7
    go_wp2_with (first
      | (go_at_call 10; refine (Hash.awake_any _).mono ?_; rintro e w' ⟨rfl, rfl⟩))
    go_ret
    exact ⟨rfl, Below.refl _ _⟩
  · have ef : (a == b) = false := beq_eq_false_iff_ne.2 e
    have n1 : (Hash.ofI a [] != Hash.ofI b []) = true := bne_iff_ne.2 fun h => e (Hash.ofI_back [] a0 (by omega) b0 (by omega) h)
    have n2 : (Hash.ofI a (strOfNums [c]).data.toList != Hash.ofI b (strOfNums [c]).data.toList) = true := bne_iff_ne.2 fun h => e (Hash.ofI_back _ a0 (by omega) b0 (by omega) h)
    have hconv := run_convert_bytes_arg (P := Try.prog) (w.alloc (.cells #[.int .u8 c] 5)) 29 5 Try.underlying29 Try.underlying5 w.heap.size 0 1 1 [c] rfl
      (fun i hi => by obtain rfl : i = 0 := by omega
                      go_simp) 9 Try.underlying9
    have hsz : (strOfNums [c]).size ≤ maxLen := by rw [strOfNums_size]; show 1 ≤ maxLen; decide
    generalize strOfNums [c] = s at *
    have E := Lib.hid e
    clear e
    go_enter Try.func7, Try.ntmps7
    go_wp2_with (first
      | (go_at_call 10; refine (Hash.awake_any _).mono ?_; rintro e w' ⟨rfl, rfl⟩)
      | (go_at_call 13; refine (Hash.of_any _ _ (by omega) (by omega) (by first | assumption | decide) _).mono ?_; rintro e w' ⟨rfl, rfl⟩))
    go_ret
    exact ⟨rfl, (Below.refl _ _).alloc (Nat.le_refl _) _⟩
end Go.Proofs.Ytpeimkmhooiimaa.HashSeeds
