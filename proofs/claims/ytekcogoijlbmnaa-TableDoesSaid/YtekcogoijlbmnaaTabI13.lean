/- Layer 9: the sort of pairs by their texts. -/
import Derived.Test.YtekcogoijlbmnaaTabI12
import Derived.Test.YtekcogoijlbmnaaStrCmp
import Derived.Shelf.SlSortCmp.NoneTotal
namespace Go.Proofs.Ytekcogoijlbmnaa.TabI
open Go Go.RowKit Go.Proofs.Ytekcogoijlbmnaa.Mem Go.Proofs.Ytekcogoijlbmnaa.Tab Go.Proofs.Ytekcogoijlbmnaa.App

abbrev cmpP (x y : ByteArray × V) : Int := Lib.compareBytes x.1.data.toList y.1.data.toList
theorem cmp_less : ∀ a b : List UInt8, decide (Lib.compareBytes a b < 0) = Op.bytesLess a b
  | [], [] => rfl
  | [], _ :: _ => rfl
  | _ :: _, [] => rfl
  | x :: a, y :: b => by
    unfold Lib.compareBytes Op.bytesLess
    by_cases h1 : x < y
    · simp [h1]
    · rw [if_neg h1]
      by_cases h2 : y < x
      · have hne : ¬ x = y := fun e => by rw [e] at h2; exact UInt8.lt_irrefl _ h2
        rw [if_pos h2]; simp [h1, hne]
      · have he : x = y := UInt8.le_antisymm (UInt8.not_lt.1 h2) (UInt8.not_lt.1 h1)
        rw [if_neg h2, cmp_less a b]
        simp [he]
theorem ltOf_cmp (x y : ByteArray × V) : ltOf cmpP x y = ltK x.1 y.1 := cmp_less _ _
theorem swo_cmp : Sort.SWO (ltOf cmpP) where
  irrefl x := by rw [ltOf_cmp]; exact ltK_irrefl _
  trans x y z h1 h2 := by rw [ltOf_cmp] at *; exact ltK_trans h1 h2
  ntrans x y z h1 h2 := by
    rw [ltOf_cmp] at *
    cases h : ltK x.1 z.1
    · rfl
    · by_cases e : x.1 = y.1
      · rw [e, h2] at h; cases h
      · have := ltK_trans (ltK_total h1 e) h
        rw [h2] at this; cases this
set_option maxHeartbeats 1000000 in
theorem close_any (x y : ByteArray × V) (W : World) : Calls Try.prog 39 #[encP x, encP y] W fun e w' => e = .returned (.int .i64 (cmpP x y)) ∧ ∃ q os', w' = Sort.grow (W.drewN q) os' := by
  obtain ⟨k1, v1⟩ := x
  obtain ⟨k2, v2⟩ := y
  show Calls Try.prog _ #[.agg #[.string k1, (.int .i64 v1)], .agg #[.string k2, (.int .i64 v2)]] W _
  have hcon := StrCmp.compare_any k1 k2
  unfold cmpP
  generalize Lib.compareBytes (k1, v1).1.data.toList (k2, v2).1.data.toList = r at hcon ⊢
  go_enter Try.func39, Try.ntmps39
  go_wp2_with (go_at_call 40; refine (hcon _).mono ?_; rintro e w' ⟨rfl, rfl⟩)
  go_ret
  exact ⟨rfl, 0, _, by rw [Sort.alloc_eq_grow, Sort.alloc_eq_grow, Sort.grow_grow]; rfl⟩
theorem cmpLays (blk off size : Nat) (w : World) : CmpLays Try.prog 39 #[] pairCells 2 cmpP blk off size w :=
  fun _ _ _ _ x y => close_any x y _

/-- A world of the sort's, as a block sees it. -/
theorem sortWorld_blk {w : World} {blk m : Nat} {dk : Array (ByteArray × V)} {os : Array Obj} {cs : Array Value} {t : TypeId} {fz : Nat × Nat} (h : w.heap[blk]? = some (.cells cs t fz)) :
    ∃ cs', (sortWorldK pairCells 2 w blk 0 m dk os).heap[blk]? = some (.cells cs' t fz) ∧ cs'.size = cs.size := by
  have hl : blk < w.heap.size := (Array.getElem?_eq_some_iff.1 h).1
  refine ⟨Sort.putCells id 0 (Sort.flatK pairCells 2 dk) cs, ?_, by simp [Sort.putCells]⟩
  show ((w.heap.modify blk (Sort.onCells (Sort.putCells id 0 (Sort.flatK pairCells 2 dk)))) ++ os)[blk]? = _
  rw [Array.getElem?_append_left (by simpa using hl), Array.getElem?_modify, if_pos rfl, h]
  rfl
theorem sortWorld_far {w : World} {blk m j : Nat} {dk : Array (ByteArray × V)} {os : Array Obj} (hj : j ≠ blk) (hl : j < w.heap.size) : (sortWorldK pairCells 2 w blk 0 m dk os).heap[j]? = w.heap[j]? := by
  show ((w.heap.modify blk (Sort.onCells (Sort.putCells id 0 (Sort.flatK pairCells 2 dk)))) ++ os)[j]? = _
  rw [Array.getElem?_append_left (by simpa using hl), Array.getElem?_modify, if_neg (Ne.symm hj)]
theorem holds_row {w : World} {base g cap n : Nat} {l : Pairs V} (h : w.ownsRow base 57 2 (.slice (some ⟨g, 0, none⟩) n cap) n (cellsP l)) (hn : n = l.length) : Sort.HoldsK pairCells 2 w g 0 l.toArray := by
  rcases h.2 with ⟨e, _⟩ | ⟨g', cap', cur, e, h2, h3, h4, h5, h6, h7⟩
  · cases e
  injection e with e _ e2
  injection e with e
  injection e with e
  subst e; subst e2
  intro t ht
  rw [Sort.size_flatK] at ht
  simp only [List.size_toArray] at ht
  rw [Sort.get_flatK _ _ _ _ (by simpa using ht)]
  refine ⟨?_, Mem.row_free h3 _⟩
  rw [Nat.zero_add, Mem.row_cell h3]
  have hq : t / 2 < l.length := by omega
  obtain ⟨c1, c2⟩ := cellsP_get l (t / 2) _ (List.getElem?_eq_getElem hq)
  have hget : ∀ j u, (cellsP l)[j]? = some u → j < n * 2 → cur[j]? = some u := fun j u hu hj => by
    rw [← h7, List.getElem?_take, if_pos hj, Array.getElem?_toList] at hu; exact hu
  have e1 : (l.toArray[t / 2]! : ByteArray × V) = l[t / 2] := by rw [getElem!_pos l.toArray (t / 2) (by simpa using hq)]; simp
  rw [e1]
  have h2 : t % 2 = 0 ∨ t % 2 = 1 := by omega
  rcases h2 with h2 | h2
  · rw [h2]
    have : t = t / 2 * 2 := by omega
    have := hget _ _ c1 (by omega)
    rwa [← ‹t = t / 2 * 2›] at this
  · rw [h2]
    have e3 : t = t / 2 * 2 + 1 := by omega
    have := hget _ _ c2 (by omega)
    rw [← e3] at this
    exact this
theorem row_holds {w : World} {base g cap n : Nat} {d : Array (ByteArray × V)} {cs : Array Value} (h : Sort.HoldsK pairCells 2 w g 0 d) (hb : w.heap[g]? = some (.cells cs 57 (0, 0))) (hg : base ≤ g) (hn : d.size = n) (hc : n ≤ cap) (hm : cap ≤ maxLen) (hs : cs.size = cap * 2) :
    w.ownsRow base 57 2 (.slice (some ⟨g, 0, none⟩) n cap) n (cellsP d.toList) := by
  refine ⟨by rw [cellsP_len]; simp [hn], .inr ⟨g, cap, cs, rfl, hg, hb, hc, hm, hs, List.ext_getElem? fun j => ?_⟩⟩
  rw [List.getElem?_take]
  by_cases hj : j < n * 2
  · rw [if_pos hj, Array.getElem?_toList]
    have hq : j / 2 < d.size := by omega
    have h1 := (h.cell (i := j / 2) (c := j % 2) hq (by omega)).1
    rw [Nat.zero_add, show j / 2 * 2 + j % 2 = j from by omega, Mem.row_cell hb] at h1
    rw [h1]
    obtain ⟨c1, c2⟩ := cellsP_get d.toList (j / 2) d[j / 2]! (by rw [getElem!_pos d (j / 2) hq, List.getElem?_eq_getElem (by simpa using hq)]; simp)
    have h2 : j % 2 = 0 ∨ j % 2 = 1 := by omega
    rcases h2 with h2 | h2
    · rw [h2]
      have e3 : j = j / 2 * 2 := by omega
      rw [← e3] at c1
      rw [c1]; rfl
    · rw [h2]
      have e3 : j = j / 2 * 2 + 1 := by omega
      rw [← e3] at c2
      rw [c2]; rfl
  · rw [if_neg hj]
    symm
    rw [List.getElem?_eq_none_iff, cellsP_len]
    simp [hn]; omega
theorem sortWorld_below {w : World} {blk m B : Nat} {dk : Array (ByteArray × V)} {os : Array Obj} (hB : B ≤ blk) (hw : B ≤ w.heap.size) : Below B w (sortWorldK pairCells 2 w blk 0 m dk os) :=
  ⟨rfl, rfl, rfl, by
    show w.heap.size ≤ ((w.heap.modify blk (Sort.onCells (Sort.putCells id 0 (Sort.flatK pairCells 2 dk)))) ++ os).size
    simp, fun k hk => sortWorld_far (by omega) (by omega)⟩
/-- What is sorted, in the order of texts. -/
theorem sorted_rising {d d' : Array (ByteArray × V)} (hp : Sort.PermIn 0 d.size d d') (hs : Sort.SortedIn (ltOf cmpP) 0 d.size d') (hn : (d.toList.map (·.1)).Nodup) : Rising d'.toList ∧ d'.toList.Perm d.toList := by
  obtain ⟨h1, -, h3⟩ := hp
  have e1 : d'.extract 0 d.size = d' := by rw [← h1]; simp
  have e2 : d.extract 0 d.size = d := by simp
  rw [e1, e2] at h3
  refine ⟨?_, h3⟩
  have hn' : (d'.toList.map (·.1)).Nodup := ((h3.map (·.1)).nodup_iff).2 hn
  unfold Rising
  rw [List.pairwise_iff_getElem]
  intro i j hi hj hij
  have hi2 : i < d'.size := by simpa using hi
  have hj2 : j < d'.size := by simpa using hj
  have := hs i j (Nat.zero_le _) hij (by omega)
  rw [ltOf_cmp, getElem!_pos d' j hj2, getElem!_pos d' i hi2] at this
  have hne : d'[j].1 ≠ d'[i].1 := fun e => by
    have q1 : (d'.toList.map (·.1))[i]? = some d'[i].1 := by rw [List.getElem?_map, List.getElem?_eq_getElem hi]; simp
    have q2 : (d'.toList.map (·.1))[j]? = some d'[i].1 := by rw [List.getElem?_map, List.getElem?_eq_getElem hj]; simp [e]
    have := (List.getElem?_inj (List.getElem?_eq_some_iff.1 q1).1 hn').1 (q1.trans q2.symm)
    omega
  have h4 := ltK_total this hne
  simpa using h4
end Go.Proofs.Ytekcogoijlbmnaa.TabI
