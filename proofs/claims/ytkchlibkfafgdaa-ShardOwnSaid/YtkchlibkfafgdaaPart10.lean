/- Part10: ShardL2, one behind the other. -/
import Derived.Test.YtkchlibkfafgdaaPart8
import Derived.Laws.BytesArg
import Derived.Laws.IdiomStrings
/- Layer 11, the laws' own functions: Same, Few. -/
namespace Go.Proofs.Ytkchlibkfafgdaa.Shard
set_option maxRecDepth 100000
open Go Go.RowKit Go.Proofs.Ytkchlibkfafgdaa.Mem Go.Proofs.Ytkchlibkfafgdaa.App Go.Proofs.Ytkchlibkfafgdaa.Ops

def bs (xs : List UInt8) : ByteArray := ⟨xs.toArray⟩
theorem conv_any {w : World} {v : Value} {xs : List UInt8} (h : SrcB w v xs) : (convert 28 9 v).run Try.prog w = .ok (.string (bs xs)) w := by
  rcases h with ⟨rfl, a, c, rfl⟩ | ⟨rfl, h1, h2⟩ | ⟨g, off, c, rfl, h1, h2, h3⟩
  · have := run_convert_bytes_back (P := Try.prog) w 28 9 5 a c [] Try.underlying28 Try.underlying5 Try.underlying9 (fun j hj => by simp at hj)
    exact this
  · have hx : xs = [] := List.eq_nil_of_length_eq_zero h2
    subst hx
    exact run_convert_bytes_nil w 28 5 Try.underlying28 Try.underlying5 0 0 9 Try.underlying9
  · refine run_convert_bytes_back (P := Try.prog) w 28 9 5 ⟨g, off, none⟩ c xs Try.underlying28 Try.underlying5 Try.underlying9 (fun j hj => ?_)
    rw [addr_add]
    refine h3 j _ ?_
    simp [cellsB, List.getElem?_eq_getElem hj]
theorem bs_eq {xs ys : List UInt8} : bs xs = bs ys ↔ xs = ys := by
  constructor
  · intro h
    have h1 := congrArg ByteArray.data h
    have h2 := congrArg Array.toList h1
    simpa [bs] using h2
  · intro h; rw [h]
set_option maxHeartbeats 4000000 in
theorem same_any {w : World} {v u : Value} (x y : Item) (hx : SrcB w v x.val) (hy : SrcB w u y.val) :
    Calls Try.prog 18 #[.agg (x.arr v), .agg (y.arr u)] w fun e w' => e = .returned (.bool (decide (x = y))) ∧ Below w.heap.size w w' := by
  have hb2 : Below w.heap.size w ((w.alloc (.cells (x.arr v) 31)).alloc (.cells (y.arr u) 31)) := Mem.al (Mem.al (Below.refl _ _) _) _
  have hcx := conv_any (hx.below hb2)
  have hcy := conv_any (hy.below hb2)
  have HB := Lib.hid hb2
  clear hb2 hx hy
  obtain ⟨a0, a1, a2, a3, a4, a5, a6, a7, a8, a9⟩ := x
  obtain ⟨b0, b1, b2, b3, b4, b5, b6, b7, b8, b9⟩ := y
  unfold Item.arr at *
  simp only at *
  by_cases h0 : a0 ≠ b0
  · have HE : Hid (decide ((⟨a0, a1, a2, a3, a4, a5, a6, a7, a8, a9⟩ : Item) = ⟨b0, b1, b2, b3, b4, b5, b6, b7, b8, b9⟩) = false) := Lib.hid (decide_eq_false (fun e => h0 (by injection e)))
    have hf : (a0.toList == b0.toList) = false := str_ne h0
    clear h0
    go_enter Try.func18, Try.ntmps18
    go_wp2
    go_ret
    exact ⟨by rw [HE.out]; rfl, HB.out⟩
  have e0 : a0 = b0 := Classical.byContradiction h0
  subst e0
  clear h0
  by_cases h1 : a1 ≠ b1
  · have HE : Hid (decide ((⟨a0, a1, a2, a3, a4, a5, a6, a7, a8, a9⟩ : Item) = ⟨a0, b1, b2, b3, b4, b5, b6, b7, b8, b9⟩) = false) := Lib.hid (decide_eq_false (fun e => h1 (by injection e)))
    have hf : ((bs a1).toList == (bs b1).toList) = false := str_ne (fun e => h1 (bs_eq.1 e))
    clear h1
    go_enter Try.func18, Try.ntmps18
    go_wp2
    go_ret
    exact ⟨by rw [HE.out]; rfl, HB.out⟩
  have e1 : a1 = b1 := Classical.byContradiction h1
  subst e1
  clear h1
  by_cases h2 : a2 ≠ b2
  · have HE : Hid (decide ((⟨a0, a1, a2, a3, a4, a5, a6, a7, a8, a9⟩ : Item) = ⟨a0, a1, b2, b3, b4, b5, b6, b7, b8, b9⟩) = false) := Lib.hid (decide_eq_false (fun e => h2 (by injection e)))
    have hf : (a2 == b2) = false := by simpa using h2
    clear h2
    go_enter Try.func18, Try.ntmps18
    go_wp2
    go_ret
    exact ⟨by rw [HE.out]; rfl, HB.out⟩
  have e2 : a2 = b2 := Classical.byContradiction h2
  subst e2
  clear h2
  by_cases h3 : a3 ≠ b3
  · have HE : Hid (decide ((⟨a0, a1, a2, a3, a4, a5, a6, a7, a8, a9⟩ : Item) = ⟨a0, a1, a2, b3, b4, b5, b6, b7, b8, b9⟩) = false) := Lib.hid (decide_eq_false (fun e => h3 (by injection e)))
    have hf : (a3 == b3) = false := by simpa using h3
    clear h3
    go_enter Try.func18, Try.ntmps18
    go_wp2
    go_ret
    exact ⟨by rw [HE.out]; rfl, HB.out⟩
  have e3 : a3 = b3 := Classical.byContradiction h3
  subst e3
  clear h3
  by_cases h4 : a4 ≠ b4
  · have HE : Hid (decide ((⟨a0, a1, a2, a3, a4, a5, a6, a7, a8, a9⟩ : Item) = ⟨a0, a1, a2, a3, b4, b5, b6, b7, b8, b9⟩) = false) := Lib.hid (decide_eq_false (fun e => h4 (by injection e)))
    have hf : (a4 == b4) = false := by simpa using h4
    clear h4
    go_enter Try.func18, Try.ntmps18
    go_wp2
    go_ret
    exact ⟨by rw [HE.out]; rfl, HB.out⟩
  have e4 : a4 = b4 := Classical.byContradiction h4
  subst e4
  clear h4
  by_cases h5 : a5 ≠ b5
  · have HE : Hid (decide ((⟨a0, a1, a2, a3, a4, a5, a6, a7, a8, a9⟩ : Item) = ⟨a0, a1, a2, a3, a4, b5, b6, b7, b8, b9⟩) = false) := Lib.hid (decide_eq_false (fun e => h5 (by injection e)))
    have hf : (a5 == b5) = false := by simpa using h5
    clear h5
    go_enter Try.func18, Try.ntmps18
    go_wp2
    go_ret
    exact ⟨by rw [HE.out]; rfl, HB.out⟩
  have e5 : a5 = b5 := Classical.byContradiction h5
  subst e5
  clear h5
  by_cases h6 : a6 ≠ b6
  · have HE : Hid (decide ((⟨a0, a1, a2, a3, a4, a5, a6, a7, a8, a9⟩ : Item) = ⟨a0, a1, a2, a3, a4, a5, b6, b7, b8, b9⟩) = false) := Lib.hid (decide_eq_false (fun e => h6 (by injection e)))
    have hf : (a6 == b6) = false := by simpa using h6
    clear h6
    go_enter Try.func18, Try.ntmps18
    go_wp2
    go_ret
    exact ⟨by rw [HE.out]; rfl, HB.out⟩
  have e6 : a6 = b6 := Classical.byContradiction h6
  subst e6
  clear h6
  by_cases h7 : a7 ≠ b7
  · have HE : Hid (decide ((⟨a0, a1, a2, a3, a4, a5, a6, a7, a8, a9⟩ : Item) = ⟨a0, a1, a2, a3, a4, a5, a6, b7, b8, b9⟩) = false) := Lib.hid (decide_eq_false (fun e => h7 (by injection e)))
    have hf : (a7 == b7) = false := by simpa using h7
    clear h7
    go_enter Try.func18, Try.ntmps18
    go_wp2
    go_ret
    exact ⟨by rw [HE.out]; rfl, HB.out⟩
  have e7 : a7 = b7 := Classical.byContradiction h7
  subst e7
  clear h7
  by_cases h8 : a8 ≠ b8
  · have HE : Hid (decide ((⟨a0, a1, a2, a3, a4, a5, a6, a7, a8, a9⟩ : Item) = ⟨a0, a1, a2, a3, a4, a5, a6, a7, b8, b9⟩) = false) := Lib.hid (decide_eq_false (fun e => h8 (by injection e)))
    have hf : (a8 == b8) = false := by simpa using h8
    clear h8
    go_enter Try.func18, Try.ntmps18
    go_wp2
    go_ret
    exact ⟨by rw [HE.out]; rfl, HB.out⟩
  have e8 : a8 = b8 := Classical.byContradiction h8
  subst e8
  clear h8
  by_cases h9 : a9 ≠ b9
  · have HE : Hid (decide ((⟨a0, a1, a2, a3, a4, a5, a6, a7, a8, a9⟩ : Item) = ⟨a0, a1, a2, a3, a4, a5, a6, a7, a8, b9⟩) = false) := Lib.hid (decide_eq_false (fun e => h9 (by injection e)))
    have hf : (a9 == b9) = false := by simpa using h9
    clear h9
    go_enter Try.func18, Try.ntmps18
    go_wp2
    go_ret
    exact ⟨by rw [HE.out]; rfl, HB.out⟩
  have e9 : a9 = b9 := Classical.byContradiction h9
  subst e9
  clear h9
  have HE : Hid (decide ((⟨a0, a1, a2, a3, a4, a5, a6, a7, a8, a9⟩ : Item) = ⟨a0, a1, a2, a3, a4, a5, a6, a7, a8, a9⟩) = true) := Lib.hid (decide_eq_true rfl)
  go_enter Try.func18, Try.ntmps18
  go_wp2
  go_ret
  exact ⟨by first | rfl | (rw [decide_eq_true rfl]; rfl) | simp, HB.out⟩
end Go.Proofs.Ytkchlibkfafgdaa.Shard

