/- Layer 7's chapter example, by its walk. -/
import Derived.Test.YtohnnlimkmofbaaSlab5
import Derived.Test.YtohnnlimkmofbaaSlab7
namespace Go.Proofs.Ytohnnlimkmofbaa.Slab
open Go Go.RowKit Go.Proofs.Ytohnnlimkmofbaa.Mem

set_option maxHeartbeats 1000000 in
theorem awake_any (w : World) : Calls Try.prog 8 #[] w fun e w' => e = .returned (.bool true) ∧ Below w.heap.size w w' := by
  have g0 := Good.new 200 (by omega)
  have g1 := g0.take 65
  have g2 := g1.take 1
  have t1 : ((new 200).take 65).1 = ((1, 0), 0) := by decide +kernel
  have t2 : (((new 200).take 65).2.take 1).1 = ((0, 0), 0) := by decide +kernel
  have t3 : ((((new 200).take 65).2.take 1).2.take 1).1 = ((0, 0), 5) := by decide +kernel
  have t4 : ((((new 200).take 65).2.take 1).2.take 1).2.used = 192 := by decide +kernel
  obtain ⟨s1, hs1⟩ : ∃ s, ((new 200).take 65).2 = s := ⟨_, rfl⟩
  rw [hs1] at g1 g2 t2 t3 t4
  obtain ⟨s2, hs2⟩ : ∃ s, (s1.take 1).2 = s := ⟨_, rfl⟩
  rw [hs2] at g2 t3 t4
  have H1 := Lib.hid g1
  have H2 := Lib.hid g2
  have T1 := Lib.hid t1
  have T2 := Lib.hid t2
  have T3 := Lib.hid t3
  have T4 := Lib.hid t4
  have S1 := Lib.hid hs1
  have S2 := Lib.hid hs2
  clear g1 g2 t1 t2 t3 t4 hs1 hs2
  go_enter Try.func8, Try.ntmps8
  go_wp2_with (fail)
  refine (new_gives _ _).mono ?_
  rintro e w1 ⟨b, F, rfl, h0, hF, hb0⟩
  have r0 : Run w w1 0 b F (new 200) := ⟨h0, hF, hb0, g0⟩
  clear h0 hF hb0 g0
  go_wp2_with (fail)
  refine (take_any r0.at_ r0.good.small (by omega) 65).mono ?_
  rintro e w2 ⟨F1, he, h1, o1, q1⟩
  rw [T1.out] at he
  rw [S1.out] at h1
  subst he
  have r1 := (r0.post h1 o1 q1 H1.out).step (Mem.al (Below.refl _ _) (.cells #[.int .i64 1, .int .i64 0] 34))
  have k1 := Mem.new_block w2 (.cells #[.int .i64 1, .int .i64 0] 34)
  have l1 : ¬ F1 w2.heap.size := fun e => by have := (r0.post h1 o1 q1 H1.out).lt _ e; omega
  clear r0 h1 o1 q1
  go_wp2_with (fail)
  refine (take_any r1.at_ r1.good.small (by omega) 1).mono ?_
  rintro e w3 ⟨F2, he, h2, o2, q2⟩
  rw [T2.out] at he
  rw [S2.out] at h2
  subst he
  have r2 := (r1.post h2 o2 q2 H2.out).step (Mem.al (Below.refl _ _) (.cells #[.int .i64 0, .int .i64 0] 34))
  have k2 := Mem.new_block w3 (.cells #[.int .i64 0, .int .i64 0] 34)
  have k1' := Mem.new_later (keeps o2 k1 l1) (.cells #[.int .i64 0, .int .i64 0] 34)
  have l2 : ¬ F2 w3.heap.size := fun e => by have := (r1.post h2 o2 q2 H2.out).lt _ e; omega
  have l1' : ¬ F2 w2.heap.size := fun e => (q2 _ e).elim l1 (fun e => by simp at e; omega)
  clear r1 h2 o2 q2 k1 l1
  go_wp2_with (fail)
  refine (take_any r2.at_ r2.good.small (by omega) 1).mono ?_
  rintro e w4 ⟨F3, he, h3, o3, q3⟩
  rw [T3.out] at he
  subst he
  have hu := fun w' (hb : Below w4.heap.size w4 w') => used_any (h3.below hb)
  rw [T4.out] at hu
  have hfin : Below w.heap.size w w4 := (r2.post h3 o3 q3 (r2.good.take 1)).below
  have k1 := Mem.new_later (keeps o3 k1' l1') (.cells #[.int .i64 0, .int .i64 0] 34)
  have k2' := Mem.new_later (keeps o3 k2 l2) (.cells #[.int .i64 0, .int .i64 0] 34)
  clear h3 o3 q3 k1' k2 l1' l2 r2
  have c1 := Mem.row_cell k1 0
  have c2 := Mem.row_cell k1 1
  have c3 := Mem.row_cell k2' 0
  have c4 := Mem.row_cell k2' 1
  simp only [List.getElem?_toArray, List.getElem?_cons_zero, List.getElem?_cons_succ] at c1 c2 c3 c4
  go_wp2_with (go_at_call 15; refine (hu _ (Mem.al (Below.refl _ _) _)).mono ?_; rintro e w' ⟨rfl, rfl⟩)
  go_ret
  exact ⟨rfl, Mem.al hfin _⟩
end Go.Proofs.Ytohnnlimkmofbaa.Slab
