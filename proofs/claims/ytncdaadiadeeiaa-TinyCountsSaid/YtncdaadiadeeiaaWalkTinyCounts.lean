/- TinyCounts answers true for every seed, text and number. Conditions: the numbers are of their types. -/
import Derived.Test.YtncdaadiadeeiaaTiny2
namespace Go.Proofs.Ytncdaadiadeeiaa.TinyCounts
open Go Go.RowKit Go.Proofs.Ytncdaadiadeeiaa.Tiny Go.Proofs.Ytncdaadiadeeiaa.Mem

/-- A judge to whom s was told j times, and nothing else. -/
def Alone (k : St) (s : List UInt8) (j : Nat) : Prop := (j = 0 ∧ k.f.has s = false ∧ k.c.age = 0 ∧ ∀ i, k.c.c i = 0) ∨ (∃ m : Nat, j = m + 1 ∧ k.f.has s = true ∧ k.c.age = m ∧ ∀ a, a < 4 → k.c.c (Sketch.pl k.c.seed s a) = min 15 m)
theorem cnt_eq {seed : Int} {s : List UInt8} {c : Nat → Nat} {v : Nat} (hv : v ≤ 15) (h : ∀ a, a < 4 → c (Sketch.pl seed s a) = v) : Sketch.cnt seed s c 4 = v := by
  have h1 := Sketch.cnt_le seed s c (n := 4) (a := 0) (by omega)
  have h2 := Sketch.le_cnt (seed := seed) (s := s) (c := c) (n := 4) hv (fun a ha => by rw [h a ha]; exact Nat.le_refl _)
  rw [h 0 (by omega)] at h1
  omega
theorem Alone.new (seed : Int) (s : List UInt8) : Alone (new seed) s 0 := .inl ⟨rfl, Bloom.has_new _ _, rfl, fun _ => rfl⟩
theorem Alone.worth {k : St} {s : List UInt8} {j : Nat} (h : Alone k s j) : k.worth s = min 16 j := by
  unfold St.worth Sketch.St.count
  rcases h with ⟨rfl, h1, h2, h3⟩ | ⟨m, rfl, h1, h2, h3⟩
  · rw [h1, cnt_eq (v := 0) (by omega) (fun a _ => h3 _)]; rfl
  · rw [h1, cnt_eq (v := min 15 m) (by omega) h3, if_pos rfl]; omega
theorem Alone.touch {k : St} {s : List UInt8} {j : Nat} (h : Alone k s j) (hk : Sketch.Ok k.c) (hj : j ≤ 600) : Alone (k.touch s) s (j + 1) := by
  rcases h with ⟨rfl, h1, h2, h3⟩ | ⟨m, rfl, h1, h2, h3⟩
  · rw [has_touch_false h1]
    exact .inr ⟨0, rfl, Bloom.has_add _ _, h2, fun a _ => h3 _⟩
  · have hv : (k.c.add s).1 = false := by
      unfold Sketch.St.add
      rw [if_pos (by omega)]
    rw [touch_false h1 hv]
    refine .inr ⟨m + 1, rfl, Bloom.has_add _ _, ?_, fun a ha => ?_⟩
    · simp only
      rw [(Sketch.add_false hv).2]
      simp only
      omega
    · simp only
      rw [(Sketch.add_false hv).2]
      simp only
      rw [Sketch.ups_own _ _ hk.c15 ha, h3 a ha]
      omega

set_option maxRecDepth 20000 in
set_option maxHeartbeats 4000000 in
theorem walk (W : World) (seed : Int) (s : ByteArray) (n : Int) (hseed : 0 ≤ seed ∧ seed ≤ 18446744073709551615) (hs : s.size ≤ maxLen) (hn : -9223372036854775808 ≤ n ∧ n ≤ 9223372036854775807) :
    Calls Try.prog 14 #[.int .u64 seed, .string s, .int .i64 n] W fun e W' => e = .returned (.bool true) ∧ Below W.heap.size W W' := by
  have HL := Lib.hid hs
  unfold maxLen at hs
  obtain ⟨n0, n1⟩ := hn
  go_enter Try.func14, Try.ntmps14
  go_wp2_with fail
  refine (awake_any _).mono ?_
  rintro e w1 ⟨rfl, hb1⟩
  go_wp2_with fail
  refine (new_run hseed hb1).mono ?_
  rintro e w2 ⟨b, fb, cb, rfl, r0, -, -⟩
  clear hb1
  have H0 := Lib.hid r0
  clear r0
  by_cases hs3 : 300 < s.size
  · have hsi : (300 : Int) < s.size := by omega
    go_wp2_with fail
    go_ret
    exact ⟨rfl, H0.out.below⟩
  have hsi : (s.size : Int) ≤ 300 := by omega
  by_cases hn0 : n < 0
  · go_wp2_with fail
    go_ret
    exact ⟨rfl, H0.out.below⟩
  by_cases hn3 : 300 < n
  · go_wp2_with fail
    go_ret
    exact ⟨rfl, H0.out.below⟩
  have hn0' : 0 ≤ n := by omega
  have hn3' : n ≤ 300 := by omega
  have hw0 : (new seed).worth s.data.toList = 0 := (Alone.new seed s.data.toList).worth
  have hwr := worth_run H0.out s HL.out
  rw [hw0] at hwr
  clear hn0 hn3 hw0
  go_wp2_with fail
  refine hwr.mono ?_
  rintro e w3 ⟨rfl, r1, -⟩
  have H1 := Lib.hid r1
  clear r1 hwr H0
  go_wp2_with fail
  go_loopg [10] n.toNat (fun g i wr => ∃ (j : Nat) (ii : Int) (k : St), i = .int .i64 ii ∧ Hid (ii = (j : Int) + 1 ∧ g + j = n.toNat) ∧ Hid (Run W wr b fb cb k ∧ Alone k s.data.toList j))
  case atStart => exact ⟨0, 1, new seed, rfl, Lib.hid ⟨rfl, by omega⟩, Lib.hid ⟨H1.out, Alone.new _ _⟩⟩
  case round =>
    obtain ⟨j, ii, k, rfl, HG, HR⟩ := hrel
    clear H1
    by_cases hm : ii ≤ n
    case neg =>
      have hm' : n < ii := by omega
      go_wp2_with fail
      go_ret
      exact ⟨rfl, HR.out.1.below⟩
    have hii0 : 1 ≤ ii := by have := HG.out; omega
    have hA := HR.out.2.touch HR.out.1.c.ok (by have := HG.out; omega)
    have hwo := hA.worth
    have HA := Lib.hid (And.intro hA hwo)
    clear hA hwo
    go_wp2_with fail
    refine (touch_run HR.out.1 s HL.out).mono ?_
    rintro e w4 ⟨rfl, hR4, -⟩
    have H4 := Lib.hid hR4
    clear hR4
    by_cases h16 : 16 < ii
    · go_wp2_with fail
      refine (worth_run H4.out s HL.out).mono ?_
      rintro e w5 ⟨rfl, hR5, -⟩
      rw [HA.out.2]
      have hv : min 16 (j + 1) = 16 := by have := HG.out; omega
      rw [hv]
      have H5 := Lib.hid hR5
      clear hR5 hv
      go_wp2_with fail
      go_roundg (n.toNat - (j + 1))
      case measure => have := HG.out; omega
      case rel => exact ⟨j + 1, ii + 1, _, by go_num, Lib.hid (by have := HG.out; omega), Lib.hid ⟨H5.out, HA.out.1⟩⟩
    · have h16' : ii ≤ 16 := by omega
      go_wp2_with fail
      refine (worth_run H4.out s HL.out).mono ?_
      rintro e w5 ⟨rfl, hR5, -⟩
      rw [HA.out.2]
      have hv : ((min 16 (j + 1) : Nat) : Int) = ii := by have := HG.out; omega
      rw [hv]
      have H5 := Lib.hid hR5
      clear hR5 hv
      go_wp2_with fail
      go_roundg (n.toNat - (j + 1))
      case measure => have := HG.out; omega
      case rel => exact ⟨j + 1, ii + 1, _, by go_num, Lib.hid (by have := HG.out; omega), Lib.hid ⟨H5.out, HA.out.1⟩⟩
end Go.Proofs.Ytncdaadiadeeiaa.TinyCounts
