/- The walks over layer 3: Mix, Of, Below come to mixI, ofI, belowI; the world stays. -/
import Derived.Test.YtekcogoijlbmnaaProg
import Derived.Test.YtekcogoijlbmnaaSpecHash
import Derived.WalkKit
import Derived.WalkSpells
import Derived.WalkLawsBesides
import Derived.Lib.Hide
namespace Go.Proofs.Ytekcogoijlbmnaa.Hash
open Go.RowKit

theorem ret_int {k : IntKind} {a b : Int} (h : a = b) : Ending.returned (.int k a) = .returned (.int k b) := by rw [h]

set_option maxHeartbeats 400000 in
theorem mix_any (a : Int) (_h0 : 0 ≤ a) (_h1 : a < 18446744073709551616) (w : World) :
    Calls Try.prog 41 #[.int .u64 a] w fun e w' => e = .returned (.int .u64 (mixI a)) ∧ w = w' := by
  go_enter Try.func41, Try.ntmps41
  go_wp2
  go_ret
  exact ⟨rfl, rfl⟩

theorem below_eq (h n : Int) (hn : 1 ≤ n) (n1 : n ≤ 9223372036854775807) : wrap64 (h % n) = belowI h n := by
  have a := Int.emod_nonneg h (b := n) (by omega)
  have b := Int.emod_lt_of_pos h (b := n) (by omega)
  unfold belowI; rw [if_neg (by omega)]
  generalize h % n = x at *
  unfold wrap64; omega

theorem below_any (h n : Int) (h0 : 0 ≤ h) (h1 : h < 18446744073709551616) (n1 : n ≤ 9223372036854775807) (w : World) :
    Calls Try.prog 35 #[.int .u64 h, .int .i64 n] w fun e w' => e = .returned (.int .i64 (belowI h n)) ∧ w = w' := by
  by_cases hn : n < 1
  · go_enter Try.func35, Try.ntmps35
    go_wp2
    go_ret
    exact ⟨ret_int (by unfold belowI; rw [if_pos hn]), rfl⟩
  · go_enter Try.func35, Try.ntmps35
    go_wp2
    go_ret
    exact ⟨ret_int (below_eq h n (by omega) n1), rfl⟩

set_option maxHeartbeats 400000 in
theorem of_any (seed : Int) (s : ByteArray) (h0 : 0 ≤ seed) (h1 : seed < 18446744073709551616) (hs : s.size ≤ maxLen) (w : World) :
    Calls Try.prog 36 #[.int .u64 seed, .string s] w fun e w' => e = .returned (.int .u64 (ofI seed s.data.toList)) ∧ w = w' := by
  unfold maxLen at hs
  have m := mixI_range h0 h1
  go_enter Try.func36, Try.ntmps36
  go_wp2_with (go_at_call 41; refine (mix_any _ (by assumption) (by assumption) _).mono ?_; rintro e w' ⟨rfl, rfl⟩)
  go_loop [5, 6, 11] (fun h _ i => ∃ k : Nat, k ≤ s.size ∧ i = .int .i64 k ∧ h = .int .u64 (foldI (mixI seed) (s.data.toList.take k))) (fun _ _ i => s.size - (intOf i).toNat)
  case atStart => exact ⟨0, Nat.zero_le _, rfl, rfl⟩
  case round =>
    obtain ⟨k, hk, rfl, rfl⟩ := hrel
    have r := foldI_range (s.data.toList.take k) m.1 m.2
    obtain ⟨q, hq⟩ : ∃ q, foldI (mixI seed) (s.data.toList.take k) = q := ⟨_, rfl⟩
    rw [hq] at r ⊢
    by_cases hlt : k < s.size
    · have HS : Hid (foldI (mixI seed) (s.data.toList.take (k + 1)) = stepI q (s[k].toNat : Int)) := by
        rw [foldI_take_snoc _ _ k (by simpa using hlt), hq]; rfl
      clear hq
      obtain ⟨r0, r1⟩ := r
      go_wp2
      go_round
      case rel => refine ⟨k + 1, by omega, by go_num, ?_⟩; rw [HS.out]; rw [wrap_eq (byte_range _).1 (byte_range _).2]; rfl
      case measure => simp [intOf]; omega
    · have HQ := Lib.hid hq
      clear hq
      obtain ⟨r0, r1⟩ := r
      go_wp2_with (go_at_call 41; refine (mix_any _ (by assumption) (by assumption) _).mono ?_; rintro e w' ⟨rfl, rfl⟩)
      go_ret
      refine ⟨ret_int ?_, rfl⟩
      unfold ofI
      rw [← HQ.out, List.take_of_length_le (by simp; omega)]

end Go.Proofs.Ytekcogoijlbmnaa.Hash
