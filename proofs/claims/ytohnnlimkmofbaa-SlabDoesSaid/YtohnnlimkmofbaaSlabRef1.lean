/- The document's own Bytes and Class of layer 7, by their walks. -/
import Derived.Test.YtohnnlimkmofbaaSlab1
namespace Go.Proofs.Ytohnnlimkmofbaa.Slab
open Go Go.RowKit

set_option maxHeartbeats 400000 in
theorem rbytes_any (k : Int) (w : World) :
    Calls Try.prog 12 #[.int .i64 k] w fun e w' => e = .returned (.int .i64 (bytesI k)) ∧ w = w' := by
  by_cases h0 : k < 0
  · go_enter Try.func12, Try.ntmps12
    go_wp2
    go_ret
    exact ⟨ret_int (by unfold bytesI; rw [if_pos h0]), rfl⟩
  by_cases h6 : 6 ≤ k
  · go_enter Try.func12, Try.ntmps12
    go_wp2
    go_ret
    exact ⟨ret_int (by unfold bytesI; rw [if_neg (by omega), if_pos h6]), rfl⟩
  obtain ⟨n, rfl⟩ := Int.eq_ofNat_of_zero_le (by omega : 0 ≤ k)
  have hn : n < 6 := by omega
  clear h0 h6
  have hz : bytesI (0 : Nat) = 64 := by decide
  have hst : ∀ i, i < n → IntKind.i64.wrap (2 * bytesI (i : Nat)) = bytesI ((i + 1 : Nat) : Int) := fun i hi => by
    rw [bytes_at i (by omega), bytes_at (i + 1) (by omega), IntKind.wrap_i64]
    match i, (by omega : i < 6) with
    | 0, _ | 1, _ | 2, _ | 3, _ | 4, _ | 5, _ => decide
  have HS := Lib.hid hst
  clear hst
  go_enter Try.func12, Try.ntmps12
  go_wp2
  go_loop [3, 4] (fun a i => ∃ k : Nat, i = .int .i64 k ∧ k ≤ n ∧ a = .int .i64 (bytesI k)) (fun _ i => n - (intOf i).toNat)
  case atStart => exact ⟨0, rfl, Nat.zero_le _, by rw [hz]⟩
  case round =>
    obtain ⟨k, rfl, hk, rfl⟩ := hrel
    by_cases hlt : k < n
    · have hs := HS.out k hlt
      generalize bytesI (k : Nat) = x at *
      go_wp2
      go_round
      case rel => exact ⟨k + 1, by go_num, hlt, rfl⟩
      case measure => simp [intOf]; omega
    · have hkn : k = n := by omega
      subst hkn
      obtain ⟨x, hx⟩ : ∃ x, bytesI (k : Nat) = x := ⟨_, rfl⟩
      have HX := Lib.hid hx
      simp only [hx]
      clear hx HS
      go_wp2
      go_ret
      exact ⟨ret_int HX.out.symm, rfl⟩

set_option maxHeartbeats 400000 in
theorem rclass_any (size : Int) (w : World) :
    Calls Try.prog 10 #[.int .i64 size] w fun e w' => e = .returned (.tuple #[.int .i64 (classR size), .int .i64 (classE size)]) ∧ w = w' := by
  have h6 := class_six size
  go_enter Try.func10, Try.ntmps10
  go_wp2
  go_loop [4] (fun i => ∃ k : Nat, i = .int .i64 k ∧ k ≤ classN size) (fun i => 6 - (intOf i).toNat)
  case atStart => exact ⟨0, rfl, Nat.zero_le _⟩
  case round =>
    obtain ⟨k, rfl, hk⟩ := hrel
    by_cases hlt : k < 6
    · have hc := class_le size k hlt
      have hcl := class_six size
      by_cases hb : size ≤ bytesI k
      · have hkc : classN size = k := by have := hc.1 hb; omega
        have HR : Hid (classR size = (k : Int) ∧ classE size = 0) := by
          unfold classR classE; rw [hkc, if_neg (by omega), if_neg (by omega)]; exact ⟨rfl, rfl⟩
        clear hc hkc hcl hk h6
        go_wp2_with (go_at_call 12; refine (rbytes_any _ _).mono ?_; rintro e w' ⟨rfl, rfl⟩)
        go_ret2
        exact ⟨by rw [HR.out.1, HR.out.2]; rfl, rfl⟩
      · have hk1 : k + 1 ≤ classN size := by
          have : ¬ classN size ≤ k := fun h => hb (hc.2 h)
          omega
        clear hc hcl hk h6
        go_wp2_with (go_at_call 12; refine (rbytes_any _ _).mono ?_; rintro e w' ⟨rfl, rfl⟩)
        go_round
        case rel => exact ⟨k + 1, by go_num, hk1⟩
        case measure => simp [intOf]; omega
    · have hk6 : k = 6 := by omega
      subst hk6
      have HR : Hid (classR size = 0 ∧ classE size = 4) := by
        unfold classR classE; rw [if_pos (by omega), if_pos (by omega)]; exact ⟨rfl, rfl⟩
      clear hk h6
      go_wp2
      go_ret2
      exact ⟨by rw [HR.out.1, HR.out.2]; rfl, rfl⟩
end Go.Proofs.Ytohnnlimkmofbaa.Slab
