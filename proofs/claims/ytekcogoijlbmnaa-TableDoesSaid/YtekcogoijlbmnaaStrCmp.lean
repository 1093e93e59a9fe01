/- strings.Compare. -/
import Derived.Test.YtekcogoijlbmnaaProg
import Derived.WalkKit
import Derived.Lib.Bytealg
namespace Go.Proofs.Ytekcogoijlbmnaa.StrCmp
open Go Go.RowKit
set_option maxHeartbeats 1000000 in
set_option maxRecDepth 100000 in
theorem inner_any (a b : ByteArray) (w : World) :
    Calls Try.prog 45 #[.string a, .string b] w fun e w' => e = .returned (.int .i64 (Lib.compareBytes a.data.toList b.data.toList)) ∧ w = w' := by
  go_enter Try.func45, Try.ntmps45
  go_wp2
  rw [run_callFunc_extern Try.func56 (by kernel_rfl) (by kernel_rfl) (by kernel_rfl) (e := Extern.BytealgCompare.compare) (by kernel_rfl), Lib.run_compareString]
  simp only [Result.andThen]
  rw [Oper.upon_value]
  go_wp2
  go_ret
  exact ⟨rfl, rfl⟩
theorem compare_any (a b : ByteArray) (w : World) :
    Calls Try.prog 40 #[.string a, .string b] w fun e w' => e = .returned (.int .i64 (Lib.compareBytes a.data.toList b.data.toList)) ∧ w = w' := by
  have hc := inner_any a b
  generalize Lib.compareBytes a.data.toList b.data.toList = r at *
  go_enter Try.func40, Try.ntmps40
  go_wp2_with (go_at_call 45; refine (hc _).mono ?_; rintro e w' ⟨rfl, rfl⟩)
  go_ret
  exact ⟨rfl, rfl⟩
end Go.Proofs.Ytekcogoijlbmnaa.StrCmp
