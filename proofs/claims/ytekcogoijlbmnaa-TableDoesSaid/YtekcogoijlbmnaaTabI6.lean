/- Layer 9: find. -/
import Derived.Test.YtekcogoijlbmnaaTabI5
import Derived.Test.YtekcogoijlbmnaaLay
namespace Go.Proofs.Ytekcogoijlbmnaa.TabI
open Go Go.RowKit Go.Proofs.Ytekcogoijlbmnaa.Mem Go.Proofs.Ytekcogoijlbmnaa.Tab Go.Shelf

theorem str_eq (a : ByteArray) : (a.toList == a.toList) = true := by simp
theorem toList_data (b : ByteArray) : b.toList = b.data.toList := by
  have h : ∀ (n i : Nat) (r : List UInt8), b.size - i = n → ByteArray.toList.loop b i r = r.reverse ++ b.data.toList.drop i := by
    intro n
    induction n with
    | zero =>
      intro i r hn
      unfold ByteArray.toList.loop
      have h1 : ¬ i < b.size := by omega
      rw [if_neg h1, List.drop_eq_nil_of_le (by have h9 : b.data.toList.length = b.size := (by simp); omega), List.append_nil]
    | succ n ih =>
      intro i r hn
      have h1 : i < b.size := by omega
      unfold ByteArray.toList.loop
      rw [if_pos h1, ih (i + 1) _ (by omega)]
      have h2 : i < b.data.toList.length := by simpa using h1
      rw [List.drop_eq_getElem_cons h2]
      have h3 : b.get! i = b.data.toList[i] := by
        have e1 : b.get! i = b.data[i]! := rfl
        rw [e1, getElem!_pos b.data i h1]
        simp
      rw [h3]; simp
  have := h (b.size - 0) 0 [] rfl
  simpa [ByteArray.toList] using this
theorem str_ne {a b : ByteArray} (h : a ≠ b) : (a.toList == b.toList) = false := by
  rw [beq_eq_false_iff_ne]
  intro e
  rw [toList_data, toList_data] at e
  apply h
  obtain ⟨⟨x⟩⟩ := a
  obtain ⟨⟨y⟩⟩ := b
  simp at e
  rw [e]

abbrev encP (x : ByteArray × V) : Value := .agg (pairCells x).toArray
theorem pred_any (key : ByteArray) (B : Nat) (w : World) (hB : B < w.heap.size) (hcell : w.cell? ⟨B, 0, none⟩ = some (.string key)) :
    PredBelow Try.prog 32 #[.pointer (some ⟨B, 0, none⟩)] encP (fun x => decide (x.1 = key)) w := fun W x hb => by
  obtain ⟨pk, pv⟩ := x
  have hc : W.cell? ⟨B, 0, none⟩ = some (.string key) := (hb.cell (p := ⟨B, 0, none⟩) hB).trans hcell
  have hBW : B < W.heap.size := Nat.lt_of_lt_of_le hB hb.size
  have hne : B ≠ W.heap.size := by omega
  show Calls Try.prog 32 #[.agg #[.string pk, (.int .i64 pv)], .pointer (some ⟨B, 0, none⟩)] W fun e w' => e = .returned (.bool (decide (pk = key))) ∧ Below w.heap.size w w'
  have HB := Lib.hid hb
  clear hb hcell
  by_cases hk : pk = key
  · subst hk
    have hse := str_eq pk
    rw [show decide (pk = pk) = true from by simp]
    go_enter Try.func32, Try.ntmps32
    go_wp2
    go_ret
    exact ⟨rfl, HB.out.alloc HB.out.size _⟩
  · have hse := str_ne hk
    rw [show decide (pk = key) = false from by simpa using hk]
    clear hk
    go_enter Try.func32, Try.ntmps32
    go_wp2
    go_ret
    exact ⟨rfl, HB.out.alloc HB.out.size _⟩

/-- The place of a text in a bucket; -1: it is not there. -/
def pos (l : Pairs V) (k : ByteArray) : Int := Lib.idxBy (fun (_ p : ByteArray × V) => decide (p.1 = k)) l default
theorem pos_none {l : Pairs V} {k : ByteArray} (h : k ∉ l.map (·.1)) : pos l k = -1 := by
  unfold pos
  have := Lib.idxBy_miss (fun (_ p : ByteArray × V) => decide (p.1 = k)) l l.length default (fun j hj => by
    simp only [decide_eq_false_iff_not]
    intro e
    rw [getElem!_pos l j hj] at e
    exact h (List.mem_map.2 ⟨_, List.getElem_mem hj, e⟩))
  rwa [List.take_length] at this
theorem pos_some {l : Pairs V} {k : ByteArray} (hn : (l.map (·.1)).Nodup) (h : k ∈ l.map (·.1)) : ∃ (i : Nat) (u : V), l[i]? = some (k, u) ∧ pos l k = i := by
  obtain ⟨⟨k', u⟩, hp, e⟩ := List.mem_map.1 h
  replace e : k' = k := e
  subst e
  obtain ⟨i, hi⟩ := List.mem_iff_getElem?.1 hp
  have hil := (List.getElem?_eq_some_iff.1 hi).1
  refine ⟨i, u, hi, ?_⟩
  unfold pos
  have := Lib.idxBy_hit (fun (_ p : ByteArray × V) => decide (p.1 = k')) l l.length i default hil (Nat.le_refl _) (by rw [getElem!_pos l i hil]; rw [(List.getElem?_eq_some_iff.1 hi).2]; simp) (fun j hj => by
    have hjl : j < l.length := by omega
    rw [getElem!_pos l j hjl]
    simp only [decide_eq_false_iff_not]
    intro e
    have h1 : (l.map (·.1))[i]? = some k' := by rw [List.getElem?_map, hi]; rfl
    have h2 : (l.map (·.1))[j]? = some k' := by rw [List.getElem?_map, List.getElem?_eq_getElem hjl]; simp [e]
    have := (List.getElem?_inj (List.getElem?_eq_some_iff.1 h1).1 hn).1 (h1.trans h2.symm)
    omega)
  rwa [List.take_length] at this
theorem cells_of_own {w : World} {v : Value} {l : Pairs V} (h : OwnP w v l) : (v = .slice none 0 0 ∧ l = []) ∨ ∃ g cap, v = .slice (some ⟨g, 0, none⟩) l.length cap ∧ g < w.heap.size ∧ ∀ j p, l[j]? = some p → ∀ i u, (pairCells p)[i]? = some u → w.cell? ⟨g, 0 + j * 2 + i, none⟩ = some u := by
  rcases h.2 with ⟨e1, e2⟩ | ⟨g, cap, cur, e1, _, e2, e3, _, e4, e5⟩
  · exact .inl ⟨e1, List.eq_nil_of_length_eq_zero e2⟩
  · refine .inr ⟨g, cap, e1, (Array.getElem?_eq_some_iff.1 e2).1, fun j p hj i u hi => ?_⟩
    obtain ⟨q1, q2⟩ := cellsP_get l j p hj
    have hjl := (List.getElem?_eq_some_iff.1 hj).1
    have hcell : ∀ m x, m < l.length * 2 → (cellsP l)[m]? = some x → w.cell? ⟨g, m, none⟩ = some x := fun m x hm hx => by
      rw [← e5, List.getElem?_take, if_pos hm, Array.getElem?_toList] at hx
      exact (Mem.row_cell e2 m).trans hx
    rw [Nat.zero_add]
    match i, hi with
    | 0, hi => simp [pairCells] at hi; rw [← hi]; exact hcell _ _ (by omega) q1
    | 1, hi => simp [pairCells] at hi; rw [← hi]; exact hcell _ _ (by omega) q2
    | i + 2, hi => simp [pairCells] at hi
theorem index_any {w : World} {v : Value} {l : Pairs V} {key : ByteArray} {B : Nat} (h : OwnP w v l) (hl : l.length ≤ 9223372036854775807) (hB : B < w.heap.size) (hcell : w.cell? ⟨B, 0, none⟩ = some (.string key)) :
    Calls Try.prog 31 #[v, .func (.func 32) #[] #[.pointer (some ⟨B, 0, none⟩)]] w fun e w' => e = .returned (.int .i64 (pos l key)) ∧ Below w.heap.size w w' := by
  have eg : ∀ args w, (callFunc 32 args).run Try.prog w = .ok (.enter 32 args) w := enters_of Try.func32 (by kernel_rfl) rfl
  rcases cells_of_own h with ⟨rfl, rfl⟩ | ⟨g, cap, rfl, hg, hc⟩
  · rw [pos_none (by simp)]
    clear h eg hcell
    go_enter Try.func31, Try.ntmps31
    go_wp2_with fail
    go_loopw [8] (fun i wr => i = .int .i64 0 ∧ wr = w) (fun _ _ => 0)
    case atStart => exact ⟨rfl, rfl⟩
    case round =>
      obtain ⟨rfl, rfl⟩ := hrel
      go_wp2_with fail
      go_ret
      exact ⟨rfl, Below.refl _ _⟩
  · have hcon := Go.Proofs.AnyQ.slices_IndexFunc Lay.idxF 2 Try.isAgg57 Try.sizeOf57 pairCells (fun _ => rfl) (fun x => decide (x.1 = key)) 32 #[.pointer (some ⟨B, 0, none⟩)] eg g 0 l.length cap l w
      (pred_any key B w hB hcell) (Nat.le_refl _) hl hg (fun j hj i u hi => hc j _ (by rw [getElem!_pos l j hj]; exact List.getElem?_eq_getElem hj) i u hi)
    rw [List.take_length] at hcon
    exact hcon
end Go.Proofs.Ytekcogoijlbmnaa.TabI
