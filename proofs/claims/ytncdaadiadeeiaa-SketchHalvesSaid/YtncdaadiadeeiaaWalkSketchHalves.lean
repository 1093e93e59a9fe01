/- SketchHalves answers true for every seed, text and number. Conditions: the numbers are of their types. -/
import Derived.Test.YtncdaadiadeeiaaSketch4
namespace Go.Proofs.Ytncdaadiadeeiaa.SketchHalves
open Go Go.RowKit Go.Proofs.Ytncdaadiadeeiaa.Sketch Go.Proofs.Ytncdaadiadeeiaa.Mem

def ageF (j : Nat) : Int := if j < 640 then j else ((320 + (j - 640) % 320 : Nat) : Int)
def valF (j : Nat) : Nat := if j < 640 then min 15 j else min 15 (7 + (j - 640) % 320)
def Alone (k : St) (s : List UInt8) (j : Nat) : Prop := k.age = ageF j ∧ ∀ a, a < 4 → k.c (pl k.seed s a) = valF j
theorem cnt_eq {seed : Int} {s : List UInt8} {c : Nat → Nat} {v : Nat} (hv : v ≤ 15) (h : ∀ a, a < 4 → c (pl seed s a) = v) : cnt seed s c 4 = v := by
  have h1 := cnt_le seed s c (n := 4) (a := 0) (by omega)
  have h2 := le_cnt (seed := seed) (s := s) (c := c) (n := 4) hv (fun a ha => by rw [h a ha]; exact Nat.le_refl _)
  rw [h 0 (by omega)] at h1
  omega
theorem Alone.stay {k : St} {s : List UInt8} {j : Nat} (h : Alone k s j) (hk : Ok k) (hh : (k.add s).1 = false) : Alone (k.add s).2 s (j + 1) ∧ (640 ≤ j + 1 → (j + 1 - 640) % 320 ≠ 0) := by
  obtain ⟨h1, h2⟩ := add_false hh
  obtain ⟨ha, hc⟩ := h
  rw [h2]
  have hag : ageF (j + 1) = ageF j + 1 ∧ valF (j + 1) = min 15 (valF j + 1) ∧ (640 ≤ j + 1 → (j + 1 - 640) % 320 ≠ 0) := by
    rw [ha] at h1
    unfold ageF at h1 ⊢
    unfold valF
    by_cases hj : j < 640
    · rw [if_pos hj] at h1 ⊢
      rw [if_pos hj, if_pos (by omega), if_pos (by omega)]
      omega
    · rw [if_neg hj] at h1 ⊢
      rw [if_neg hj, if_neg (by omega), if_neg (by omega)]
      omega
  refine ⟨⟨by simp only; rw [ha, hag.1], fun a hlt => ?_⟩, hag.2.2⟩
  simp only
  rw [ups_own _ _ hk.c15 hlt, hc a hlt, hag.2.1]
theorem Alone.turn {k : St} {s : List UInt8} {j : Nat} (h : Alone k s j) (hk : Ok k) (hh : (k.add s).1 = true) : Alone (k.add s).2 s (j + 1) ∧ 640 ≤ j + 1 ∧ (j + 1 - 640) % 320 = 0 ∧ (k.add s).2.count s = 7 := by
  obtain ⟨h1, h2⟩ := add_true hh
  obtain ⟨ha, hc⟩ := h
  have hag : ageF (j + 1) = 320 ∧ valF (j + 1) = 7 ∧ valF j = 15 ∧ 640 ≤ j + 1 ∧ (j + 1 - 640) % 320 = 0 := by
    have ha1 := hk.a1
    rw [ha] at h1 ha1
    unfold ageF at h1 ha1 ⊢
    unfold valF
    by_cases hj : j < 640
    · rw [if_pos hj] at h1 ha1
      have : j = 639 := by omega
      subst this
      decide
    · rw [if_neg hj] at h1 ha1
      rw [if_neg hj, if_neg (by omega), if_neg (by omega)]
      omega
  have hv : ∀ a, a < 4 → (k.add s).2.c (pl (k.add s).2.seed s a) = 7 := fun a hlt => by
    rw [h2]
    simp only [half]
    rw [ups_own _ _ hk.c15 hlt, hc a hlt, hag.2.2.1]
    decide
  exact ⟨⟨by rw [h2, hag.1], fun a hlt => by rw [hv a hlt, hag.2.1]⟩, hag.2.2.2.1, hag.2.2.2.2, cnt_eq (by omega) hv⟩

set_option maxRecDepth 20000 in
set_option maxHeartbeats 4000000 in
theorem walk (W : World) (seed : Int) (s : ByteArray) (n : Int) (hseed : 0 ≤ seed ∧ seed ≤ 18446744073709551615) (hs : s.size ≤ maxLen) (hn : -9223372036854775808 ≤ n ∧ n ≤ 9223372036854775807) :
    Calls Try.prog 4 #[.int .u64 seed, .string s, .int .i64 n] W fun e W' => e = .returned (.bool true) ∧ Below W.heap.size W W' := by
  have HL := Lib.hid hs
  unfold maxLen at hs
  obtain ⟨n0, n1⟩ := hn
  go_enter Try.func4, Try.ntmps4
  go_wp2_with fail
  refine (awake_any _).mono ?_
  rintro e w1 ⟨rfl, hb1⟩
  go_wp2_with fail
  refine (new_run hseed hb1).mono ?_
  rintro e w2 ⟨b, rfl, r0, -⟩
  clear hb1
  have H0 := Lib.hid r0
  clear r0
  by_cases hs3 : 300 < s.size
  · have hsi : (300 : Int) < s.size := by omega
    go_wp2_with fail
    go_ret
    exact ⟨rfl, H0.out.below⟩
  have hsi : (s.size : Int) ≤ 300 := by omega
  by_cases hn0 : n < 0
  · go_wp2_with fail
    go_ret
    exact ⟨rfl, H0.out.below⟩
  by_cases hn3 : 3000 < n
  · go_wp2_with fail
    go_ret
    exact ⟨rfl, H0.out.below⟩
  have hn0' : 0 ≤ n := by omega
  have hn3' : n ≤ 3000 := by omega
  clear hn0 hn3
  go_wp2_with fail
  go_loopg [9] n.toNat (fun g i wr => ∃ (j : Nat) (ii : Int) (k : St), i = .int .i64 ii ∧ Hid (ii = (j : Int) + 1 ∧ g + j = n.toNat) ∧ Hid (Run W wr b k ∧ Alone k s.data.toList j))
  case atStart => exact ⟨0, 1, new seed, rfl, Lib.hid ⟨rfl, by omega⟩, Lib.hid ⟨H0.out, rfl, fun _ _ => rfl⟩⟩
  case round =>
    obtain ⟨j, ii, k, rfl, HG, HR⟩ := hrel
    clear H0
    by_cases hm : ii ≤ n
    case neg =>
      have hm' : n < ii := by omega
      go_wp2_with fail
      go_ret
      exact ⟨rfl, HR.out.1.below⟩
    have hii0 : 1 ≤ ii := by have := HG.out; omega
    go_wp2_with fail
    refine (add_run HR.out.1 s HL.out).mono ?_
    rintro e w3 ⟨rfl, hR3, -⟩
    have HR3 := Lib.hid hR3
    clear hR3
    obtain ⟨hv, hh⟩ : ∃ hv, (k.add s.data.toList).1 = hv := ⟨_, rfl⟩
    have HH := Lib.hid hh
    rw [hh]
    clear hh
    cases hv
    · have hA := HR.out.2.stay HR.out.1.ok HH.out
      have HA := Lib.hid hA
      have hmod : 640 ≤ ii → ((ii - 640) % 320 == 0) = false := fun h6 => by have := hA.2 (by have := HG.out; omega); have := HG.out; simp; omega
      clear hA
      by_cases h6 : 640 ≤ ii
      · have hmod := hmod h6
        go_wp2_with fail
        go_roundg (n.toNat - (j + 1))
        case measure => have := HG.out; omega
        case rel => exact ⟨j + 1, ii + 1, _, by go_num, Lib.hid (by have := HG.out; omega), Lib.hid ⟨HR3.out, HA.out.1⟩⟩
      · clear hmod
        have h6' : ii < 640 := by omega
        go_wp2_with fail
        go_roundg (n.toNat - (j + 1))
        case measure => have := HG.out; omega
        case rel => exact ⟨j + 1, ii + 1, _, by go_num, Lib.hid (by have := HG.out; omega), Lib.hid ⟨HR3.out, HA.out.1⟩⟩
    · have hA := HR.out.2.turn HR.out.1.ok HH.out
      have HA := Lib.hid hA
      have h6 : 640 ≤ ii := by have := HG.out; omega
      have hmod : ((ii - 640) % 320 == 0) = true := by have := HG.out; simp; omega
      clear hA
      go_wp2_with fail
      refine (count_run HR3.out s HL.out).mono ?_
      rintro e w4 ⟨rfl, hR4, -⟩
      rw [HA.out.2.2.2]
      go_wp2_with fail
      go_roundg (n.toNat - (j + 1))
      case measure => have := HG.out; omega
      case rel => exact ⟨j + 1, ii + 1, _, by go_num, Lib.hid (by have := HG.out; omega), Lib.hid ⟨hR4, HA.out.1⟩⟩
end Go.Proofs.Ytncdaadiadeeiaa.SketchHalves
