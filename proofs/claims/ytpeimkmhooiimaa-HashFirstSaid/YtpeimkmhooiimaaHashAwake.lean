/- Layer 3's statements: the chapter's examples, and the document's own functions, by their walks. -/
import Derived.Test.YtpeimkmhooiimaaHash
namespace Go.Proofs.Ytpeimkmhooiimaa.Hash
open Go.RowKit

theorem mix0 : mixI 0 = 0 := by decide +kernel
theorem mix1 : mixI 1 = 6238072747940578789 := by decide +kernel
theorem of0 : ofI 0 [] = 0 := by decide +kernel
theorem below74 : belowI 7 4 = 3 := by decide +kernel

set_option maxHeartbeats 400000 in
theorem awake_any (w : World) : Calls Try.prog 10 #[] w fun e w' => e = .returned (.bool true) ∧ w = w' := by
  have e0 : (mixI 0 == 0) = true := by rw [mix0]; rfl
  have e1 : (mixI 1 == 6238072747940578789) = true := by rw [mix1]; rfl
  have e2 : (ofI 0 [] == 0) = true := by rw [of0]; rfl
  have e3 : (belowI 7 4 == 3) = true := by rw [below74]; rfl
  go_enter Try.func10, Try.ntmps10
  go_wp2_with (first | (go_at_call 11; refine (mix_any _ (by omega) (by omega) _).mono ?_; rintro e w' ⟨rfl, rfl⟩) | (go_at_call 13; refine (of_any _ _ (by omega) (by omega) (by decide) _).mono ?_; rintro e w' ⟨rfl, rfl⟩) | (go_at_call 15; refine (below_any _ _ (by omega) (by omega) (by omega) _).mono ?_; rintro e w' ⟨rfl, rfl⟩))
  go_ret
  exact ⟨rfl, rfl⟩
end Go.Proofs.Ytpeimkmhooiimaa.Hash
