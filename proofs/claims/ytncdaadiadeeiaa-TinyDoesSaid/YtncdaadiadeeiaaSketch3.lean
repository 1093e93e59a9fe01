/- The walks over layer 5: Copy. -/
import Derived.Test.YtncdaadiadeeiaaSketch1
import Derived.Deep.WholeRow
namespace Go.Proofs.Ytncdaadiadeeiaa.Sketch
open Go Go.RowKit Go.Proofs.Ytncdaadiadeeiaa.Mem
theorem cells_size (k : St) : (cells k).size = 130 := by unfold cells; simp
theorem cells_one (k : St) : (cells k).all (·.oneCell') = true := by
  unfold cells
  rw [List.all_toArray]
  simp [Value.oneCell']
theorem store_sketch (w : World) (k : St) : (storeCells ⟨w.heap.size, 0, none⟩ (cells k).toList 0).run Try.prog (w.alloc (.cells (cells (new 0)) 66)) = .ok () (w.alloc (.cells (cells k) 66)) :=
  run_storeCells_new w 66 _ _ (by rw [cells_size]; kernel_rfl) (by rw [cells_size, cells_size]) (cells_one k)
theorem sketch_size (k : St) : (Try.prog.info? 66).map (·.size) = some (cells k).size := by rw [cells_size]; kernel_rfl
theorem copy_any {w : World} {b : Nat} {k : St} (h : At w b k) : Calls Try.prog 25 #[.pointer (some ⟨b, 0, none⟩)] w fun e w' =>
    ∃ b', e = .returned (.pointer (some ⟨b', 0, none⟩)) ∧ At w' b' k ∧ w.heap.size ≤ b' ∧ Below w.heap.size w w' := by
  have hz := zero_sketch
  have hs := store_sketch w k
  have H := Lib.hid h
  clear h
  go_enter Try.func25, Try.ntmps25
  go_wp2_with (refine wpList_load_row rfl 66 _ rfl b rfl 66 (cells k) (0, 0) _ H.out Try.underlying66 rfl (sketch_size k) ?_)
  go_ret
  exact ⟨_, rfl, Mem.new_block w _, Nat.le_refl _, Mem.al (Below.refl _ _) _⟩
end Go.Proofs.Ytncdaadiadeeiaa.Sketch
