/- The walks over layer 4: New, Copy, Clear, Ones. -/
import Derived.Test.YtncdaadiadeeiaaProg
import Derived.Test.YtncdaadiadeeiaaSpecBloom
import Derived.Test.YtncdaadiadeeiaaPop
import Derived.Test.YtncdaadiadeeiaaMem
import Derived.WalkKit
import Derived.WalkSpells
import Derived.WalkLawsBesides
import Derived.KernelRfl
import Derived.Lib.Hide
import Derived.Lib.SliceRun
import Derived.Deep.LoopGhost
import Derived.Deep.WholeRow
namespace Go.Proofs.Ytncdaadiadeeiaa.Bloom
open Go Go.RowKit Go.Proofs.Ytncdaadiadeeiaa.Mem

theorem ret_int {k : IntKind} {a b : Int} (h : a = b) : Ending.returned (.int k a) = .returned (.int k b) := by rw [h]
def cells (k : St) : Array Value := #[.int .u64 k.seed, .int .u64 (k.w 0 : Nat), .int .u64 (k.w 1 : Nat), .int .u64 (k.w 2 : Nat), .int .u64 (k.w 3 : Nat), .int .u64 (k.w 4 : Nat), .int .u64 (k.w 5 : Nat), .int .u64 (k.w 6 : Nat), .int .u64 (k.w 7 : Nat)]
def At (w : World) (b : Nat) (k : St) : Prop := w.heap[b]? = some (.cells (cells k) 76 (0, 0))
theorem cells_word (k : St) {j : Nat} (h : j < 8) : (cells k)[1 + j]? = some (.int .u64 (k.w j : Nat)) := by
  match j, h with
  | 0, _ | 1, _ | 2, _ | 3, _ | 4, _ | 5, _ | 6, _ | 7, _ => rfl
theorem cells_set {k k' : St} {j : Nat} {v : Nat} (hj : j < 8) (hs : k'.seed = k.seed) (hv : k'.w j = v) (ho : ∀ i, i ≠ j → k'.w i = k.w i) : (cells k).setIfInBounds (1 + j) (.int .u64 (v : Nat)) = cells k' := by
  unfold cells
  rw [hs, ← hv]
  match j, hj with
  | 0, _ => rw [ho 1 (by omega), ho 2 (by omega), ho 3 (by omega), ho 4 (by omega), ho 5 (by omega), ho 6 (by omega), ho 7 (by omega)]; rfl
  | 1, _ => rw [ho 0 (by omega), ho 2 (by omega), ho 3 (by omega), ho 4 (by omega), ho 5 (by omega), ho 6 (by omega), ho 7 (by omega)]; rfl
  | 2, _ => rw [ho 0 (by omega), ho 1 (by omega), ho 3 (by omega), ho 4 (by omega), ho 5 (by omega), ho 6 (by omega), ho 7 (by omega)]; rfl
  | 3, _ => rw [ho 0 (by omega), ho 1 (by omega), ho 2 (by omega), ho 4 (by omega), ho 5 (by omega), ho 6 (by omega), ho 7 (by omega)]; rfl
  | 4, _ => rw [ho 0 (by omega), ho 1 (by omega), ho 2 (by omega), ho 3 (by omega), ho 5 (by omega), ho 6 (by omega), ho 7 (by omega)]; rfl
  | 5, _ => rw [ho 0 (by omega), ho 1 (by omega), ho 2 (by omega), ho 3 (by omega), ho 4 (by omega), ho 6 (by omega), ho 7 (by omega)]; rfl
  | 6, _ => rw [ho 0 (by omega), ho 1 (by omega), ho 2 (by omega), ho 3 (by omega), ho 4 (by omega), ho 5 (by omega), ho 7 (by omega)]; rfl
  | 7, _ => rw [ho 0 (by omega), ho 1 (by omega), ho 2 (by omega), ho 3 (by omega), ho 4 (by omega), ho 5 (by omega), ho 6 (by omega)]; rfl
theorem zero_bloom (w : World) : (zeroValue 76).run Try.prog w = .ok (.agg (cells (new 0))) w := by
  have h : Try.t76.zero = some (.agg (cells (new 0))) := by kernel_rfl
  unfold zeroValue
  go_simp
theorem new_any (seed : Int) (w : World) : Calls Try.prog 30 #[.int .u64 seed] w fun e w' =>
    e = .returned (.pointer (some ⟨w.heap.size, 0, none⟩)) ∧ w' = w.alloc (.cells (cells (new seed)) 76) := by
  go_enter Try.func30, Try.ntmps30
  go_wp2
  go_ret
  exact ⟨rfl, rfl⟩
theorem new_gives (seed : Int) (w : World) : Calls Try.prog 30 #[.int .u64 seed] w fun e w' =>
    ∃ b : Nat, e = .returned (.pointer (some ⟨b, 0, none⟩)) ∧ At w' b (new seed) ∧ w.heap.size ≤ b ∧ Below w.heap.size w w' :=
  (new_any seed w).mono fun e w' ⟨he, hw⟩ => by
    subst hw
    exact ⟨_, he, Mem.new_block w _, Nat.le_refl _, Mem.al (Below.refl _ _) _⟩
theorem bloom_size (k : St) : (Try.prog.info? 76).map (·.size) = some (cells k).size := by
  rw [show (cells k).size = 9 from rfl]; kernel_rfl
theorem cells_one (k : St) : (cells k).all (·.oneCell') = true := by
  unfold cells
  rw [List.all_toArray]
  simp [Value.oneCell']
theorem store_bloom (w : World) (k : St) : (storeCells ⟨w.heap.size, 0, none⟩ (cells k).toList 0).run Try.prog (w.alloc (.cells (cells (new 0)) 76)) = .ok () (w.alloc (.cells (cells k) 76)) :=
  run_storeCells_new w 76 _ _ (bloom_size k) rfl (cells_one k)
theorem copy_any {w : World} {b : Nat} {k : St} (h : At w b k) : Calls Try.prog 37 #[.pointer (some ⟨b, 0, none⟩)] w fun e w' =>
    ∃ b', e = .returned (.pointer (some ⟨b', 0, none⟩)) ∧ At w' b' k ∧ w.heap.size ≤ b' ∧ Below w.heap.size w w' := by
  have hz := zero_bloom
  have hs := store_bloom w k
  have H := Lib.hid h
  clear h
  go_enter Try.func37, Try.ntmps37
  go_wp2_with (refine wpList_load_row rfl 76 _ rfl b rfl 76 (cells k) (0, 0) _ H.out Try.underlying76 rfl (bloom_size k) ?_)
  go_ret
  exact ⟨_, rfl, Mem.new_block w _, Nat.le_refl _, Mem.al (Below.refl _ _) _⟩
theorem setCells_row {b : Nat} {t : TypeId} : ∀ (vs : List Value) (o : Nat) (w : World) (cs : Array Value), w.heap[b]? = some (.cells cs t (0, 0)) → o + vs.length ≤ cs.size →
    (w.setCells b o vs).heap[b]? = some (.cells (cs.toList.take o ++ vs ++ cs.toList.drop (o + vs.length)).toArray t (0, 0))
  | [], o, w, cs, h, _ => by
    simp only [World.setCells, List.append_nil, List.length_nil, Nat.add_zero, List.take_append_drop, Array.toArray_toList]; exact h
  | v :: vs, o, w, cs, h, hl => by
    simp only [List.length_cons] at hl
    show ((w.setCell ⟨b, o, none⟩ v).setCells b (o + 1) vs).heap[b]? = _
    rw [setCells_row vs (o + 1) _ _ (Mem.row_set h o v) (by simp; omega)]
    congr 2
    simp only [Array.toList_setIfInBounds, List.length_cons]
    rw [List.drop_set_of_lt (by omega), show o + 1 + vs.length = o + (vs.length + 1) from by omega, List.take_succ_eq_append_getElem (by simp; omega), List.getElem_set_self, List.take_set_of_le (Nat.le_refl _)]
    simp
theorem setCells_only {b : Nat} : ∀ (vs : List Value) (o : Nat) (w : World), Only (fun j => j = b) w (w.setCells b o vs)
  | [], _, w => Only.refl _ w
  | v :: vs, o, w => ((Only.refl (fun j => j = b) w).setCell (p := ⟨b, o, none⟩) (.inl rfl) v).trans (setCells_only vs (o + 1) _) (fun _ e => .inl e)
theorem zero_word (w : World) : (zeroValue 22).run Try.prog w = .ok (.int .u64 0) w := by
  have h : Try.t22.zero = some (.int .u64 0) := by kernel_rfl
  unfold zeroValue
  go_simp
theorem clear_any {w : World} {b : Nat} {k : St} (h : At w b k) : Calls Try.prog 34 #[.pointer (some ⟨b, 0, none⟩)] w fun e w' => e = .returned (.tuple #[]) ∧ At w' b k.clear ∧ Only (fun j => j = b) w w' := by
  have hcl := fun ty => Lib.run_clear_slice (P := Try.prog) w 78 22 ty (.int .u64 0) Try.underlying78 zero_word rfl rfl b 1 8 8 (by omega)
    (fun j hj => by rw [Mem.row_cell h, cells_word k hj]; rfl) (fun j _ => Mem.row_free h _)
  have hfin : At (w.setCells b 1 (List.replicate 8 (.int .u64 0))) b k.clear := by
    have := setCells_row (List.replicate 8 (.int .u64 0)) 1 w _ h (by rw [List.length_replicate, show (cells k).size = 9 from rfl]; omega)
    exact this
  have HF := Lib.hid (And.intro hfin (setCells_only (b := b) (List.replicate 8 (.int .u64 0)) 1 w))
  clear h hfin
  generalize w.setCells b 1 (List.replicate 8 (.int .u64 0)) = w2 at *
  go_enter Try.func34, Try.ntmps34
  go_wp2
  go_end0
  exact ⟨rfl, HF.out⟩
theorem ones_words (w : Nat → Nat) (j : Nat) : ones w (64 * (j + 1)) = ones w (64 * j) + Pop.popN 64 (w j) := by
  unfold ones Pop.popN
  rw [show 64 * (j + 1) = 64 * j + 64 from by omega, List.range_add, List.countP_append, List.countP_map]
  congr 1
  refine List.countP_congr fun i hi => ?_
  have hi64 : i < 64 := by simpa using hi
  simp only [Function.comp, bit]
  rw [show (64 * j + i) / 64 = j from by omega, show (64 * j + i) % 64 = i from by omega]
def words (k : St) : Array Value := #[.int .u64 (k.w 0 : Nat), .int .u64 (k.w 1 : Nat), .int .u64 (k.w 2 : Nat), .int .u64 (k.w 3 : Nat), .int .u64 (k.w 4 : Nat), .int .u64 (k.w 5 : Nat), .int .u64 (k.w 6 : Nat), .int .u64 (k.w 7 : Nat)]
theorem index_word (k : St) {j : Nat} (hj : j < 8) (w : World) : (Instr.index 74 (.agg (words k)) (.int .i64 j)).run Try.prog w = .ok (.int .u64 (k.w j : Nat)) w := by
  have hs : (sizeOf 22).run Try.prog w = .ok 1 w := by
    have h : Try.t22.size = 1 := by kernel_rfl
    unfold sizeOf
    go_simp
  have hc : (words k)[j]? = some (.int .u64 (k.w j : Nat)) := by
    rcases (by omega : j = 0 ∨ j = 1 ∨ j = 2 ∨ j = 3 ∨ j = 4 ∨ j = 5 ∨ j = 6 ∨ j = 7) with rfl | rfl | rfl | rfl | rfl | rfl | rfl | rfl <;> rfl
  unfold Instr.index
  simp [asIntOf, run_underlying Try.underlying74, hs, hc, part]
  omega
set_option maxHeartbeats 1000000 in
theorem ones_any {w : World} {b : Nat} {k : St} (h : At w b k) (hk : Ok k) : Calls Try.prog 32 #[.pointer (some ⟨b, 0, none⟩)] w fun e w' => e = .returned (.int .i64 (k.ones : Nat)) ∧ w = w' := by
  have c1 : w.cell? ⟨b, 1, none⟩ = some (.int .u64 (k.w 0 : Nat)) := Mem.row_cell h 1
  have c2 : w.cell? ⟨b, 2, none⟩ = some (.int .u64 (k.w 1 : Nat)) := Mem.row_cell h 2
  have c3 : w.cell? ⟨b, 3, none⟩ = some (.int .u64 (k.w 2 : Nat)) := Mem.row_cell h 3
  have c4 : w.cell? ⟨b, 4, none⟩ = some (.int .u64 (k.w 3 : Nat)) := Mem.row_cell h 4
  have c5 : w.cell? ⟨b, 5, none⟩ = some (.int .u64 (k.w 4 : Nat)) := Mem.row_cell h 5
  have c6 : w.cell? ⟨b, 6, none⟩ = some (.int .u64 (k.w 5 : Nat)) := Mem.row_cell h 6
  have c7 : w.cell? ⟨b, 7, none⟩ = some (.int .u64 (k.w 6 : Nat)) := Mem.row_cell h 7
  have c8 : w.cell? ⟨b, 8, none⟩ = some (.int .u64 (k.w 7 : Nat)) := Mem.row_cell h 8
  have HK := Lib.hid hk
  clear h hk
  go_enter Try.func32, Try.ntmps32
  go_wp2
  go_loopg [3, 10] 8 (fun g n i wr => ∃ (j : Nat), n = .int .i64 (ones k.w (64 * j) : Nat) ∧ i = .int .i64 j ∧ g + j = 8 ∧ wr = w)
  case atStart => exact ⟨0, by simp [ones], rfl, by omega, rfl⟩
  case round =>
    obtain ⟨j, rfl, rfl, hg, rfl⟩ := hrel
    have HG := Lib.hid hg
    have hle := ones_le k.w (64 * j)
    have hnx := ones_words k.w j
    have hle1 := ones_le k.w (64 * (j + 1))
    by_cases hj : j < 8
    · have hji : (j : Int) < 8 := by omega
      have hw := Pop.ones_any (k.w j) (HK.out.w j) wr
      obtain ⟨n, hn⟩ : ∃ n, ones k.w (64 * j) = n := ⟨_, rfl⟩
      obtain ⟨m, hm⟩ : ∃ m, Pop.popN 64 (k.w j) = m := ⟨_, rfl⟩
      rw [hm] at hw
      rw [hn, hm] at hnx
      rw [hn] at hle
      rw [hnx] at hle1
      have HN := Lib.hid hnx
      rw [hn]
      clear hn hm hnx hg
      have hix : (Instr.index 74 (.agg #[.int .u64 (k.w 0 : Nat), .int .u64 (k.w 1 : Nat), .int .u64 (k.w 2 : Nat), .int .u64 (k.w 3 : Nat), .int .u64 (k.w 4 : Nat), .int .u64 (k.w 5 : Nat), .int .u64 (k.w 6 : Nat), .int .u64 (k.w 7 : Nat)]) (.int .i64 j)).run Try.prog wr = .ok (.int .u64 (k.w j : Nat)) wr := index_word k hj wr
      go_wp2_with (go_at_call 54; refine hw.mono ?_; rintro e w' ⟨rfl, rfl⟩)
      go_roundg (gk - 1)
      case measure => have := HG.out; omega
      case rel => exact ⟨j + 1, by rw [HN.out]; go_num, by go_num, by have := HG.out; omega, rfl⟩
    · have hj8 : j = 8 := by omega
      subst hj8
      have hr : ones k.w (64 * 8) = k.ones := rfl
      rw [hr]
      clear hg hle hnx hle1 hr
      go_wp2
      go_ret
      exact ⟨rfl, rfl⟩
end Go.Proofs.Ytncdaadiadeeiaa.Bloom
