/- The walks over layer 7: Bytes, Class. -/
import Derived.Test.YtohnnlimkmofbaaProg
import Derived.Test.YtohnnlimkmofbaaSpecSlab
import Derived.Test.YtohnnlimkmofbaaMem
import Derived.WalkKit
import Derived.WalkSpells
import Derived.WalkLawsBesides
import Derived.Lib.Hide
namespace Go.Proofs.Ytohnnlimkmofbaa.Slab
open Go Go.RowKit
theorem ret_int {k : IntKind} {a b : Int} (h : a = b) : Ending.returned (.int k a) = .returned (.int k b) := by rw [h]

set_option maxHeartbeats 400000 in
theorem bytes_any (k : Int) (w : World) :
    Calls Try.prog 11 #[.int .i64 k] w fun e w' => e = .returned (.int .i64 (bytesI k)) ∧ w = w' := by
  by_cases h0 : k < 0
  · go_enter Try.func11, Try.ntmps11
    go_wp2
    go_ret
    exact ⟨ret_int (by unfold bytesI; rw [if_pos h0]), rfl⟩
  by_cases h6 : 6 ≤ k
  · go_enter Try.func11, Try.ntmps11
    go_wp2
    go_ret
    exact ⟨ret_int (by unfold bytesI; rw [if_neg (by omega), if_pos h6]), rfl⟩
  obtain ⟨n, rfl⟩ := Int.eq_ofNat_of_zero_le (by omega : 0 ≤ k)
  have hn : n < 6 := by omega
  clear h0 h6
  match n, hn with
  | 0, _ | 1, _ | 2, _ | 3, _ | 4, _ | 5, _ =>
    go_enter Try.func11, Try.ntmps11
    go_wp2
    go_ret
    exact ⟨rfl, rfl⟩

theorem class_le (size : Int) (k : Nat) (hk : k < 6) : size ≤ bytesI k ↔ classN size ≤ k := by
  rw [bytes_at k hk]
  unfold classN
  match k, hk with
  | 0, _ | 1, _ | 2, _ | 3, _ | 4, _ | 5, _ => simp only [Int.reducePow, Int.reduceMul]; constructor <;> (intro h; repeat' (split at * <;> try omega)) <;> omega
theorem class_six (size : Int) : classN size ≤ 6 := by unfold classN; (repeat' split) <;> omega

/-- What Class answers. -/
def classR (size : Int) : Int := if classN size = 6 then 0 else (classN size : Nat)
def classE (size : Int) : Int := if classN size = 6 then 4 else 0

set_option maxHeartbeats 400000 in
theorem class_any (size : Int) (w : World) :
    Calls Try.prog 9 #[.int .i64 size] w fun e w' => e = .returned (.tuple #[.int .i64 (classR size), .int .i64 (classE size)]) ∧ w = w' := by
  have h6 := class_six size
  go_enter Try.func9, Try.ntmps9
  go_wp2
  go_loop [4, 5] (fun _ i => ∃ k : Nat, i = .int .i64 k ∧ k ≤ classN size) (fun _ i => 6 - (intOf i).toNat)
  case atStart => exact ⟨0, rfl, Nat.zero_le _⟩
  case round =>
    obtain ⟨k, rfl, hk⟩ := hrel
    by_cases hlt : k < 6
    · have hc := class_le size k hlt
      have hcl := class_six size
      by_cases hb : size ≤ bytesI k
      · have hkc : classN size = k := by have := hc.1 hb; omega
        have HR : Hid (classR size = (k : Int) ∧ classE size = 0) := by
          unfold classR classE; rw [hkc, if_neg (by omega), if_neg (by omega)]; exact ⟨rfl, rfl⟩
        clear hc hkc hcl hk h6
        go_wp2_with (go_at_call 11; refine (bytes_any _ _).mono ?_; rintro e w' ⟨rfl, rfl⟩)
        go_ret2
        exact ⟨by rw [HR.out.1, HR.out.2]; rfl, rfl⟩
      · have hk1 : k + 1 ≤ classN size := by
          have : ¬ classN size ≤ k := fun h => hb (hc.2 h)
          omega
        clear hc hcl hk h6
        go_wp2_with (go_at_call 11; refine (bytes_any _ _).mono ?_; rintro e w' ⟨rfl, rfl⟩)
        go_round
        case rel => exact ⟨k + 1, by go_num, hk1⟩
        case measure => simp [intOf]; omega
    · have hk6 : k = 6 := by omega
      subst hk6
      have HR : Hid (classR size = 0 ∧ classE size = 4) := by
        unfold classR classE; rw [if_pos (by omega), if_pos (by omega)]; exact ⟨rfl, rfl⟩
      clear hk h6
      go_wp2
      go_ret2
      exact ⟨by rw [HR.out.1, HR.out.2]; rfl, rfl⟩
end Go.Proofs.Ytohnnlimkmofbaa.Slab
