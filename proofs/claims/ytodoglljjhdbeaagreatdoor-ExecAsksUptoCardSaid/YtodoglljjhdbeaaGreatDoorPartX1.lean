/- PartX1: Same12, one behind the other. -/
import Derived.Test.YtodoglljjhdbeaaGreatDoorPart35
import Derived.Test.YtodoglljjhdbeaaGreatDoorPart20
/- Layer 12: two results that are the same. -/
namespace Go.Proofs.YtodoglljjhdbeaaGreatDoor.Exec
set_option maxRecDepth 100000
open Go Go.RowKit Go.Proofs.YtodoglljjhdbeaaGreatDoor.Mem Go.Proofs.YtodoglljjhdbeaaGreatDoor.App Go.Proofs.YtodoglljjhdbeaaGreatDoor.Shard

set_option maxHeartbeats 4000000 in
theorem same_eq (r : Res) {w : World} {a1 a2 : Option Addr} {n1 n2 k1 k2 : Nat} (h1 : SrcB w (.slice a1 n1 k1) r.val) (h2 : SrcB w (.slice a2 n2 k2) r.val) :
    Calls Tryz.prog 15 #[.agg (r.arr (.slice a1 n1 k1)), .agg (r.arr (.slice a2 n2 k2))] w fun e w' => e = .returned (.bool true) ∧ Below w.heap.size w w' := by
  have m1 : ((w.alloc (.cells (r.arr (.slice a1 n1 k1)) 37)).alloc (.cells (r.arr (.slice a2 n2 k2)) 37)).heap[w.heap.size]? = some (.cells (r.arr (.slice a1 n1 k1)) 37 (0, 0)) := Mem.new_later (Mem.new_block w _) _
  have m2 := Mem.new_block2 w (.cells (r.arr (.slice a1 n1 k1)) 37) (.cells (r.arr (.slice a2 n2 k2)) 37)
  have hb2 : Below w.heap.size w ((w.alloc (.cells (r.arr (.slice a1 n1 k1)) 37)).alloc (.cells (r.arr (.slice a2 n2 k2)) 37)) := Mem.al (Mem.al (Below.refl _ _) _) _
  obtain ⟨w1, hw1⟩ : ∃ w1, (w.alloc (.cells (r.arr (.slice a1 n1 k1)) 37)).alloc (.cells (r.arr (.slice a2 n2 k2)) 37) = w1 := ⟨_, rfl⟩
  rw [hw1] at m1 m2 hb2
  have c1 := conv_any (h1.below hb2)
  have c2 := conv_any (h2.below hb2)
  have x0 := Mem.row_cell m1 0
  have x1 := Mem.row_cell m1 1
  have x2 := Mem.row_cell m1 2
  have x3 := Mem.row_cell m1 3
  have x4 := Mem.row_cell m1 4
  have x5 := Mem.row_cell m1 5
  have x6 := Mem.row_cell m1 6
  have x7 := Mem.row_cell m1 7
  have x8 := Mem.row_cell m1 8
  have y0 := Mem.row_cell m2 0
  have y1 := Mem.row_cell m2 1
  have y2 := Mem.row_cell m2 2
  have y3 := Mem.row_cell m2 3
  have y4 := Mem.row_cell m2 4
  have y5 := Mem.row_cell m2 5
  have y6 := Mem.row_cell m2 6
  have y7 := Mem.row_cell m2 7
  have y8 := Mem.row_cell m2 8
  simp only [Res.arr, List.getElem?_toArray, List.getElem?_cons_zero, List.getElem?_cons_succ] at x0 x1 x2 x3 x4 x5 x6 x7 x8 y0 y1 y2 y3 y4 y5 y6 y7 y8
  have HB := Lib.hid hb2
  clear hb2 m1 m2 h1 h2
  unfold Res.arr at hw1
  unfold Res.arr
  go_enter Tryz.func15, Tryz.ntmps15
  go_wp2_with fail
  go_ret
  exact ⟨rfl, HB.out⟩
end Go.Proofs.YtodoglljjhdbeaaGreatDoor.Exec

