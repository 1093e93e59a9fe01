/- Layer 6's statements: the chapter's example; plain laws. -/
import Derived.Test.YtncdaadiadeeiaaTiny1
import Derived.Test.YtncdaadiadeeiaaBloom5
namespace Go.Proofs.Ytncdaadiadeeiaa.Tiny
open Go Go.RowKit Go.Proofs.Ytncdaadiadeeiaa.Mem

set_option maxHeartbeats 1000000 in
theorem awake_any (w : World) : Calls Try.prog 38 #[] w fun e w' => e = .returned (.bool true) ∧ Below w.heap.size w w' := by
  have t1 : ((new 1).touch [97]).worth [97] = 1 := by decide +kernel
  have t2 : (((new 1).touch [97]).touch [97]).worth [97] = 2 := by decide +kernel
  have T := Lib.hid (And.intro t1 t2)
  clear t1 t2
  go_enter Try.func38, Try.ntmps38
  go_wp2_with fail
  refine (new_run (by omega) (Below.refl _ w)).mono ?_
  rintro e w1 ⟨b, fb, cb, rfl, r0, -, -⟩
  go_wp2_with fail
  refine (touch_run r0 ⟨#[97]⟩ (by decide)).mono ?_
  rintro e w2 ⟨rfl, r1, -⟩
  clear r0
  go_wp2_with fail
  refine (worth_run r1 ⟨#[97]⟩ (by decide)).mono ?_
  rintro e w3 ⟨rfl, r2, -⟩
  have e1 : ((new 1).touch #[97].toList).worth #[97].toList = 1 := T.out.1
  rw [e1]
  clear r1 e1
  go_wp2_with fail
  refine (touch_run r2 ⟨#[97]⟩ (by decide)).mono ?_
  rintro e w4 ⟨rfl, r3, -⟩
  clear r2
  go_wp2_with fail
  refine (worth_run r3 ⟨#[97]⟩ (by decide)).mono ?_
  rintro e w5 ⟨rfl, r4, -⟩
  have e2 : (((new 1).touch #[97].toList).touch #[97].toList).worth #[97].toList = 2 := T.out.2
  rw [e2]
  clear r3 e2
  have H := Lib.hid r4.below
  clear r4
  go_wp2_with fail
  go_ret
  exact ⟨rfl, H.out⟩

theorem worth_16 (j : St) (s : List UInt8) : j.worth s ≤ 16 := by
  have : j.c.count s ≤ 15 := Sketch.cnt_le15 _ _ _ _
  unfold St.worth; split <;> omega
theorem has_touch_false {j : St} {s : List UInt8} (h : j.f.has s = false) : j.touch s = ⟨j.f.add s, j.c⟩ := by
  unfold St.touch; rw [h, if_neg (by decide)]
theorem touch_false {j : St} {s : List UInt8} (h : j.f.has s = true) (hc : (j.c.add s).1 = false) : j.touch s = ⟨j.f.add s, (j.c.add s).2⟩ := by
  unfold St.touch; rw [h, if_pos rfl, hc, if_neg (by decide)]
theorem touch_true {j : St} {s : List UInt8} (h : j.f.has s = true) (hc : (j.c.add s).1 = true) : j.touch s = ⟨(j.f.add s).clear, (j.c.add s).2⟩ := by
  unfold St.touch; rw [h, if_pos rfl, hc, if_pos rfl]
theorem cnt_mono {seed : Int} {s : List UInt8} {c d : Nat → Nat} (h : ∀ i, c i ≤ d i) (n : Nat) : Sketch.cnt seed s c n ≤ Sketch.cnt seed s d n := by
  induction n with
  | zero => exact Nat.le_refl _
  | succ n ih =>
    unfold Sketch.cnt
    have := h (Sketch.pl seed s n)
    omega
/-- One more touch. -/
theorem touch_worth {j : St} (hc : Sketch.Ok j.c) (s t : List UInt8) :
    (j.worth s ≤ (j.touch s).worth s ∧ 1 ≤ (j.touch s).worth s) ∨ ((j.touch s).worth s ≤ 8 ∧ (j.touch s).worth t ≤ j.worth t) := by
  cases hh : j.f.has s
  · left
    rw [has_touch_false hh]
    unfold St.worth
    rw [hh]
    simp only [Bloom.has_add, if_true]
    constructor
    · simp
    · omega
  · cases hv : (j.c.add s).1
    · left
      rw [touch_false hh hv]
      unfold St.worth
      rw [hh]
      simp only [Bloom.has_add, if_true]
      have hcnt : j.c.count s ≤ (j.c.add s).2.count s := by
        rw [(Sketch.add_false hv).2]
        exact cnt_mono (fun i => Sketch.ups_ge _ _ _ _ _) 4
      omega
    · right
      rw [touch_true hh hv]
      unfold St.worth
      simp only [Bloom.has_clear]
      have he := (Sketch.add_true hv).2
      have h7 : (j.c.add s).2.count s ≤ 7 := by
        unfold Sketch.St.count
        refine Nat.le_trans (Sketch.cnt_le _ _ _ (a := 0) (by omega)) ?_
        rw [he]
        have := Sketch.ups_15 hc.c15 j.c.seed s 4 (Sketch.pl j.c.seed s 0)
        simp only [Sketch.half]; omega
      have hle : (j.c.add s).2.count t ≤ j.c.count t := by
        rw [he]
        refine cnt_mono (fun i => ?_) 4
        have := Sketch.ups_le j.c.seed s j.c.c 4 i
        simp only [Sketch.half]; omega
      constructor
      · simp; omega
      · simp; omega
end Go.Proofs.Ytncdaadiadeeiaa.Tiny
