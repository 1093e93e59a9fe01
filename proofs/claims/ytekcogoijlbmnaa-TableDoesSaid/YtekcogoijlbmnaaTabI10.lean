/- Layer 9: slices.Delete of one pair. -/
import Derived.Test.YtekcogoijlbmnaaTabI9
import Derived.Test.YtekcogoijlbmnaaCells
namespace Go.Proofs.Ytekcogoijlbmnaa.TabI
open Go Go.RowKit Go.Proofs.Ytekcogoijlbmnaa.Mem Go.Proofs.Ytekcogoijlbmnaa.Tab

abbrev zeros : List Value := [.string ⟨#[]⟩, (.int .i64 0)]
theorem run_clear_one {w : World} (ty : TypeId) {g o c : Nat} {cs : Array Value} (hb : w.heap[g]? = some (.cells cs 57 (0, 0))) (ho : o + 2 ≤ cs.size) :
    (Builtin.clear_ #[59] ty #[.slice (some ⟨g, o, none⟩) 1 c]).run Try.prog w = .ok (.tuple #[]) (w.setCells g o zeros) := by
  have hst := run_storeCells_cells (P := Try.prog) g o zeros 0 w (fun j hj => by
    have : j < 2 := hj
    rw [Mem.row_cell hb, Nat.add_zero, Array.getElem?_eq_getElem (by omega)]; rfl) (fun j _ => Mem.row_free hb _) (by intro v hv; simp at hv; rcases hv with rfl | rfl <;> rfl)
  simp only [Nat.add_zero] at hst
  have hz : (Builtin.zeroCells (Value.agg #[.string ⟨#[]⟩, (.int .i64 0)]).cells 1).toList = zeros := by kernel_rfl
  simp [Builtin.clear_, run_underlying Try.underlying59, hz, hst]
theorem cellsP_take (l : Pairs V) (k : Nat) : cellsP (l.take k) = (cellsP l).take (k * 2) := by
  rcases Nat.lt_or_ge k l.length with h | h
  · conv => rhs; rw [← List.take_append_drop k l]
    rw [cellsP_app, List.take_left']
    rw [cellsP_len, List.length_take]; omega
  · rw [List.take_of_length_le h, List.take_of_length_le (by rw [cellsP_len]; omega)]
theorem cellsP_drop (l : Pairs V) (k : Nat) : cellsP (l.drop k) = (cellsP l).drop (k * 2) := by
  rcases Nat.lt_or_ge k l.length with h | h
  · conv => rhs; rw [← List.take_append_drop k l]
    rw [cellsP_app, List.drop_left']
    rw [cellsP_len, List.length_take]; omega
  · rw [List.drop_of_length_le h, List.drop_of_length_le (by rw [cellsP_len]; omega)]; rfl
/-- The row behind the two stores. -/
theorem row_erased {w : World} {g cap i m : Nat} {l : Pairs V} (h : OwnP w (.slice (some ⟨g, 0, none⟩) (i + 1 + m) cap) l) (hl : l.length = i + 1 + m) :
    OwnP ((w.setCells g (i * 2) (cellsP (l.drop (i + 1)))).setCells g ((i + m) * 2) zeros) (.slice (some ⟨g, 0, none⟩) (i + m) cap) (l.eraseIdx i) ∧ ∃ cs, (w.setCells g (i * 2) (cellsP (l.drop (i + 1)))).heap[g]? = some (.cells cs 57 (0, 0)) ∧ (i + m) * 2 + 2 ≤ cs.size := by
  have hel : (l.eraseIdx i).length = i + m := by rw [List.length_eraseIdx, if_pos (by omega)]; omega
  have hdl : (cellsP (l.drop (i + 1))).length = m * 2 := by rw [cellsP_len, List.length_drop]; omega
  rcases h.2 with ⟨e, _⟩ | ⟨g', cap', cur, e, h2, h3, h4, h5, h6, h7⟩
  · cases e
  injection e with e e1 e2
  injection e with e
  injection e with e
  subst e; subst e2
  rw [hl] at h4 h7
  have hb1 := Mem.set_cells (cellsP (l.drop (i + 1))) (i * 2) cur h3
  have hb2 := Mem.set_cells zeros ((i + m) * 2) _ hb1
  refine ⟨⟨by rw [cellsP_len], .inr ⟨g, cap, _, by rw [hel], h2, hb2, by rw [hel]; omega, h5, by rw [lay_size, lay_size]; exact h6, ?_⟩⟩, _, hb1, by rw [lay_size]; omega⟩
  rw [hel]
  refine List.ext_getElem? fun j => ?_
  rw [List.getElem?_take]
  rw [List.eraseIdx_eq_take_drop_succ, cellsP_app, cellsP_take]
  by_cases hj : j < (i + m) * 2
  · rw [if_pos hj, Array.getElem?_toList, lay_out zeros _ _ j (.inl hj)]
    have hl2 : ((cellsP l).take (i * 2)).length = i * 2 := by rw [List.length_take, cellsP_len]; omega
    by_cases hj2 : j < i * 2
    · rw [lay_out _ _ _ j (.inl hj2), List.getElem?_append_left (by omega), List.getElem?_take, if_pos hj2, ← h7, List.getElem?_take, if_pos (by omega), Array.getElem?_toList]
    · rw [lay_in _ _ _ j (by rw [hdl]; omega) (by omega) (by rw [hdl]; omega), List.getElem?_append_right (by omega), hl2]
  · rw [if_neg hj]
    symm
    rw [List.getElem?_eq_none_iff, List.length_append, List.length_take, cellsP_len, hdl]
    omega
theorem Only.two {F : Nat → Prop} {w : World} {g : Nat} (hF : F g) (o1 o2 : Nat) (xs ys : List Value) (d : Nat) : Only F w (((w.drewN d).setCells g o1 xs).setCells g o2 ys) := Only.setCells (.inl hF) ys o2 (Only.setCells (.inl hF) xs o1 (Only.drewN (Only.refl F w) d))
def ErasedPost (w : World) (g cap i m : Nat) (l : Pairs V) (e : Ending) (w' : World) : Prop :=
  e = .returned (.slice (some ⟨g, 0, none⟩) (i + m) cap) ∧ ∃ d, w' = ((w.drewN d).setCells g (i * 2) (cellsP (l.drop (i + 1)))).setCells g ((i + m) * 2) zeros
set_option maxHeartbeats 1000000 in
theorem erase_any {w : World} {g cap i m : Nat} {l : Pairs V} (h : OwnP w (.slice (some ⟨g, 0, none⟩) (i + 1 + m) cap) l) (hl : l.length = i + 1 + m) (hb : i + 1 + m ≤ 1000000000) :
    Calls Try.prog 25 #[.slice (some ⟨g, 0, none⟩) (i + 1 + m) cap, .int .i64 i, .int .i64 ((i : Int) + 1)] w (ErasedPost w g cap i m l) := by
  obtain ⟨i0, hi, hz0, hz1, hz2⟩ := info_parts infoPair
  have her := row_erased h hl
  have hdl : (cellsP (l.drop (i + 1))).length = m * 2 := by rw [cellsP_len, List.length_drop]; omega
  rcases h.2 with ⟨e, _⟩ | ⟨g', cap', cur, e, h2, h3, h4, h5, h6, h7⟩
  · cases e
  injection e with e e1 e2
  injection e with e
  injection e with e
  subst e; subst e2
  rw [hl] at h4 h7
  unfold maxLen at h5
  obtain ⟨A, hA, hnews⟩ : ∃ A : Addr, (if cap = i + 1 then some (⟨g, 0, none⟩ : Addr) else some ⟨g, (i + 1) * 2, none⟩) = some A ∧ Hid (∀ j u, (cellsP (l.drop (i + 1)))[j]? = some u → w.drew.cell? (A.add j) = some u) := by
    by_cases hc : cap = i + 1
    · refine ⟨⟨g, 0, none⟩, by simp [hc], fun j u hu => ?_⟩
      have h0 : (cellsP (l.drop (i + 1))).length = 0 := by rw [hdl]; omega
      rw [List.length_eq_zero_iff.1 h0] at hu
      simp at hu
    · refine ⟨⟨g, (i + 1) * 2, none⟩, by simp [hc], fun j u hu => ?_⟩
      rw [Addr.add_lit]
      show w.cell? _ = _
      rw [Mem.row_cell h3]
      have hj : j < m * 2 := by have := (List.getElem?_eq_some_iff.1 hu).1; rwa [hdl] at this
      rw [cellsP_drop, List.getElem?_drop, ← h7, List.getElem?_take, if_pos (by omega), Array.getElem?_toList] at hu
      exact hu
  have s1 : Hid ((cellsP (l.drop (i + 1))).length = m * 2) := hdl
  have s2 : Hid (∀ u ∈ cellsP (l.drop (i + 1)), u.oneCell' = true) := one_cellsP _
  have s3 : Hid (∀ j, j < (cellsP (l.drop (i + 1))).length → (w.drew.cell? ⟨g, 0 + i * 2 + j, none⟩).isSome = true ∧ w.drew.frozen? ⟨g, 0 + i * 2 + j, none⟩ = false) := by
    intro j hj
    rw [hdl] at hj
    refine ⟨?_, Mem.row_free (W := w.drew) h3 _⟩
    show (w.cell? _).isSome = true
    rw [Mem.row_cell h3, Array.getElem?_eq_getElem (by omega)]; rfl
  have s4 : Hid (cap ≠ i + m) := by intro e; omega
  have hcl := fun ty => run_clear_one (w := w.drew.setCells g (i * 2) (cellsP (l.drop (i + 1)))) ty (g := g) (o := (i + m) * 2) (c := cap - (i + m)) (cs := lay cur (i * 2) (cellsP (l.drop (i + 1)))) (Mem.set_cells (W := w.drew) _ _ _ h3) (by rw [lay_size]; omega)
  have hic : i ≤ cap := by omega
  have hi1 : i + 1 ≤ i + 1 + m := by omega
  have hlen2 : i + 1 + m - (i + 1) = m := by omega
  have hlen3 : i + 1 + m - (i + m) = 1 := by omega
  have hwr : IntKind.i64.wrap ((i : Int) + 1) = (i : Int) + 1 := by rw [IntKind.wrap_i64]; omega
  have hne : ((i : Int) == (i : Int) + 1) = false := by simp; omega
  have hp0 : (0 : Int) ≤ (i : Int) + 1 := by omega
  have hp3 : (i : Int) + 1 ≤ (i : Int) + 1 + m := by omega
  have hp4 : (i : Int) + m ≤ (i : Int) + 1 + m := by omega
  have hp5 : (0 : Int) ≤ (i : Int) + m := by omega
  have hp6 : (0 : Int) ≤ (i : Int) + 1 + m := by omega
  have hp7 : ((i : Int) + m).toNat = i + m := by omega
  have hp8 : ((i : Int) + 1 + m).toNat = i + 1 + m := by omega
  have hp9 : (i : Int) + 1 + m ≤ cap := by omega
  have hp2 : ((i : Int) + 1).toNat = i + 1 := by omega
  clear h her hl h3 h7 hdl e1
  go_enter Try.func25, Try.ntmps25
  go_wp2_with fail
  go_region_law (refine step_append_room rfl (.tmp 22) (.tmp 25) 59 rfl 57 i0 2 Try.underlying59 hi hz1 g 0 i cap (by simp [Act.eval, Act.put]) A m (cap - (i + 1)) (cellsP (l.drop (i + 1))) (by simp [Act.eval, Act.put]) s1.out hnews.out s2.out (by omega) s3.out ?_)
  all_goals go_wp2_with fail
  go_ret
  exact ⟨rfl, 1, rfl⟩
end Go.Proofs.Ytekcogoijlbmnaa.TabI
