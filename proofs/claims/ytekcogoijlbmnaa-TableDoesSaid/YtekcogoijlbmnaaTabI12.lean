/- Layer 9: slices.Grow of nothing, slices.Concat of the two lists of buckets. -/
import Derived.Test.YtekcogoijlbmnaaTabI11
import Derived.Test.YtekcogoijlbmnaaAppend
import Derived.Lib.AppendZeros
namespace Go.Proofs.Ytekcogoijlbmnaa.TabI
open Go Go.RowKit Go.Proofs.Ytekcogoijlbmnaa.Mem Go.Proofs.Ytekcogoijlbmnaa.Tab Go.Proofs.Ytekcogoijlbmnaa.App

def GrowPost (w : World) (e : Ending) (w' : World) : Prop := ∃ v c, v = .slice (some ⟨w.heap.size, 0, none⟩) 0 c ∧ e = .returned v ∧ w'.ownsRow w.heap.size 59 1 v 0 [] ∧ Below w.heap.size w w'
set_option maxHeartbeats 1000000 in
theorem grow_any {n : Nat} (h0 : 0 < n) (hn : n ≤ 3000000000) (w : World) :
    Calls Try.prog 42 #[.slice none 0 0, .int .i64 n] w (GrowPost w) := by
  obtain ⟨i0, hi, hz0, hz1, hz2⟩ := info_parts infoBk
  have hrun := fun ty w' => Lib.run_append_nil_zeros (P := Try.prog) w' 50 3 ty 59 i0 _ .i64 .i64 Try.underlying50 Try.underlying3 hi hz0 n h0 (by omega) (by omega) (by rw [hz2]; omega)
  have hfin : ∀ (c : Nat) (cs : Array Value), n ≤ c → c ≤ maxLen → cs.size = c → GrowPost w (.returned (.slice (some ⟨w.heap.size, 0, none⟩) 0 c)) (w.drew.alloc (.cells cs 59)) := fun c cs h1 h2 h3 => by
    refine ⟨_, c, rfl, rfl, ⟨rfl, .inr ⟨w.heap.size, c, cs, rfl, Nat.le_refl _, Mem.new_block w.drew _, Nat.zero_le _, h2, by omega, by simp⟩⟩, (Below.drew (Below.refl _ w)).alloc (by exact Nat.le_refl _) _⟩
  have hg1 := fun (w' : World) => grownCap_ge w' n 0 59
  have hg2 := fun (w' : World) => grownCap_le_maxLen w' n 0 59 (by unfold maxLen; omega)
  have HF := Lib.hid (And.intro hfin (And.intro hg1 hg2))
  have hn1 : (0 : Int) < n := by omega
  have hn2 : (n : Int) ≤ 3000000000 := by omega
  clear hfin hg1 hg2
  go_enter Try.func42, Try.ntmps42
  go_wp2_with (at_builtin; refine Lib.wpList_append_run _ rfl _ _ _ _ rfl _ _ rfl rfl _ _ (hrun _ _) ?_)
  go_ret
  exact HF.out.1 _ _ (HF.out.2.1 _) (HF.out.2.2 _) (by simp [Builtin.zeroCells]; have := HF.out.2.1 w; omega)

/-- The two lists' cells. -/
def bkCells (gv : Nat → Value) (a n : Nat) : List Value := (List.range n).map fun k => gv (a + k)
theorem bkCells_len (gv : Nat → Value) (a n : Nat) : (bkCells gv a n).length = n := by simp [bkCells]
theorem bkCells_get (gv : Nat → Value) (a n k : Nat) (hk : k < n) : (bkCells gv a n)[k]? = some (gv (a + k)) := by simp [bkCells, hk]
theorem bkCells_app (gv : Nat → Value) (n m : Nat) : bkCells gv 0 n ++ bkCells gv n m = bkCells gv 0 (n + m) := by
  unfold bkCells
  rw [List.range_add, List.map_append, List.map_map]
  simp [Function.comp_def]
def ConcatPost (w : World) (c : Con V) (gv : Nat → Value) (e : Ending) (w' : World) : Prop := ∃ v, e = .returned v ∧ w'.ownsRow w.heap.size 59 1 v (c.E + c.N) (bkCells gv 0 (c.E + c.N)) ∧ Below w.heap.size w w'
theorem one_bk {gv : Nat → Value} {a n : Nat} (h : ∀ k, ∃ x y z, gv k = .slice x y z) : ∀ u ∈ bkCells gv a n, u.oneCell' = true := fun u hu => by
  simp only [bkCells, List.mem_map] at hu
  obtain ⟨k, _, rfl⟩ := hu
  obtain ⟨x, y, z, e⟩ := h (a + k)
  rw [e]; rfl
def SumRel (E N g : Nat) (sz i : Value) : Prop := (g = 2 ∧ i = .int .i64 0 ∧ sz = .int .i64 0) ∨ (g = 1 ∧ i = .int .i64 1 ∧ sz = .int .i64 E) ∨ (g = 0 ∧ i = .int .i64 2 ∧ sz = .int .i64 ((E : Int) + N))
def AppRel (w : World) (gv : Nat → Value) (E N g : Nat) (v i : Value) (w' : World) : Prop := Below w.heap.size w w' ∧ ((g = 2 ∧ i = .int .i64 0 ∧ ∃ a c, v = .slice a 0 c ∧ w'.ownsRow w.heap.size 59 1 v 0 []) ∨ (g = 1 ∧ i = .int .i64 1 ∧ ∃ a c, v = .slice a E c ∧ w'.ownsRow w.heap.size 59 1 v E (bkCells gv 0 E)) ∨ (g = 0 ∧ i = .int .i64 2 ∧ ∃ a c, v = .slice a (E + N) c ∧ w'.ownsRow w.heap.size 59 1 v (E + N) (bkCells gv 0 (E + N))))
set_option maxRecDepth 100000 in
set_option maxHeartbeats 2000000 in
theorem concat_any {w : World} {eb nb E N : Nat} {ea : Option Addr} {gv : Nat → Value} {pb : Nat} (he : (E = 0 ∧ ea = none) ∨ (ea = some ⟨eb, 0, none⟩ ∧ ∃ a, w.heap[eb]? = some (bkObj a) ∧ ∀ k, k < E → a[k]? = some (gv k)))
    (hn : ∃ a, w.heap[nb]? = some (bkObj a) ∧ ∀ k, k < N → a[k]? = some (gv (E + k))) (hgs : ∀ k, ∃ x y z, gv k = .slice x y z) (hN : 0 < N) (hE1 : E ≤ 1000000100) (hN1 : N ≤ 1000000100)
    (hp : w.heap[pb]? = some (.cells #[.slice ea E E, .slice (some ⟨nb, 0, none⟩) N N] 50 (0, 0))) :
    Calls Try.prog 37 #[.slice (some ⟨pb, 0, none⟩) 2 2] w fun e w' => ∃ v, e = .returned v ∧ w'.ownsRow w.heap.size 59 1 v (E + N) (bkCells gv 0 (E + N)) ∧ Below w.heap.size w w' := by
  obtain ⟨i0, hi, hz0, hz1, hz2⟩ := info_parts infoBk
  have p0 := Mem.row_cell hp 0
  have p1 := Mem.row_cell hp 1
  simp only [List.getElem?_toArray, List.getElem?_cons_zero, List.getElem?_cons_succ] at p0 p1
  have hpl : pb < w.heap.size := (Array.getElem?_eq_some_iff.1 hp).1
  have hs1 : Src w 1 (.slice ea E E) E (bkCells gv 0 E) := by
    rcases he with ⟨rfl, rfl⟩ | ⟨rfl, a, ha, hc⟩
    · exact .inl ⟨rfl, rfl, rfl⟩
    · refine .inr ⟨eb, 0, E, rfl, by rw [bkCells_len]; omega, (Array.getElem?_eq_some_iff.1 ha).1, fun j u hu => ?_⟩
      have hj : j < E := by have := (List.getElem?_eq_some_iff.1 hu).1; rwa [bkCells_len] at this
      rw [bkCells_get _ _ _ _ hj] at hu
      rw [Nat.zero_add] at hu ⊢
      exact ((Mem.row_cell ha j).trans (hc j hj)).trans hu
  have hs2 : Src w 1 (.slice (some ⟨nb, 0, none⟩) N N) N (bkCells gv E N) := by
    obtain ⟨a, ha, hc⟩ := hn
    refine .inr ⟨nb, 0, N, rfl, by rw [bkCells_len]; omega, (Array.getElem?_eq_some_iff.1 ha).1, fun j u hu => ?_⟩
    have hj : j < N := by have := (List.getElem?_eq_some_iff.1 hu).1; rwa [bkCells_len] at this
    rw [bkCells_get _ _ _ _ hj] at hu
    rw [Nat.zero_add]
    exact ((Mem.row_cell ha j).trans (hc j hj)).trans hu
  have HS := Lib.hid (And.intro hs1 (And.intro hs2 hgs))
  have hg := grow_any (n := E + N) (by omega) (by omega) w
  clear he hn hgs hp hs1 hs2
  have hEi : (E : Int) ≤ 1000000100 := by omega
  have hNi : (N : Int) ≤ 1000000100 := by omega
  unfold GrowPost at hg
  go_enter Try.func37, Try.ntmps37
  go_wp2_with fail
  go_loopg [3, 11] 2 (fun g sz i wr => w = wr ∧ SumRel E N g sz i)
  case atStart => exact ⟨rfl, .inl ⟨rfl, rfl, rfl⟩⟩
  case round =>
    obtain ⟨rfl, h | h | h⟩ := hrel
    · obtain ⟨rfl, rfl, rfl⟩ := h
      clear hg
      go_wp2_with fail
      go_roundg 1
      case measure => omega
      case rel => exact ⟨rfl, .inr (.inl ⟨rfl, rfl, rfl⟩)⟩
    · obtain ⟨rfl, rfl, rfl⟩ := h
      clear hg
      go_wp2_with fail
      go_roundg 0
      case measure => omega
      case rel => exact ⟨rfl, .inr (.inr ⟨rfl, rfl, rfl⟩)⟩
    · obtain ⟨rfl, rfl, rfl⟩ := h
      have P01 := Lib.hid (And.intro p0 p1)
      clear p0 p1
      rw [show (((E + N : Nat) : Nat) : Int) = (E : Int) + N from by omega] at hg
      go_wp2_with fail
      refine hg.mono ?_
      rintro e w2 ⟨v, c0, rfl, rfl, hown, hb⟩
      have H2 := Lib.hid (And.intro hown hb)
      clear hown hb hg
      go_wp2_with fail
      go_loopg [6, 27] 2 (fun g v i wx => AppRel w gv E N g v i wx)
      case atStart => exact ⟨H2.out.2, .inl ⟨rfl, rfl, _, _, rfl, H2.out.1⟩⟩
      case round =>
        obtain ⟨hb, h | h | h⟩ := hrel
        · obtain ⟨rfl, rfl, ya, yc, rfl, hown⟩ := h
          have HO := Lib.hid (And.intro hown (And.intro (HS.out.1.below hb) hb))
          have q0 := (hb.cell (p := ⟨pb, 0, none⟩) hpl).trans P01.out.1
          have hz := hb.size
          clear hown hb
          go_wp2_with (at_builtin; refine wpList_append_src _ _ 50 50 59 59 i0 _ 1 24 w.heap.size _ _ 0 E [] (bkCells gv 0 E) rfl rfl Try.underlying50 Try.underlying50 hi hz0 hz1 hz2 rfl (by omega) rfl rfl HO.out.1 HO.out.2.1 (one_bk HS.out.2.2) (by unfold maxLen; omega) (by omega) hz ?_; intro v' w5 hown5 hg5 hat5; have H5 := Lib.hid (show AppRel w gv E N 1 v' (.int .i64 1) w5 from ⟨HO.out.2.2.grown hg5 hz (fun g e => (own_block_lt HO.out.1 g e).1), .inr (.inl ⟨rfl, rfl, (Src.shape (Src.of_row hown5)).elim (fun a h => h.elim (fun c h => ⟨a, c, by rw [h, Nat.zero_add], by rw [Nat.zero_add] at hown5; exact hown5⟩))⟩)⟩); clear hown5 hg5 hat5)
          go_roundg 1
          case measure => omega
          case rel => exact H5.out
        · obtain ⟨rfl, rfl, ya, yc, rfl, hown⟩ := h
          have HO := Lib.hid (And.intro hown (And.intro (HS.out.2.1.below hb) hb))
          have q1 := (hb.cell (p := ⟨pb, 1, none⟩) hpl).trans P01.out.2
          have hz := hb.size
          clear hown hb
          go_wp2_with (at_builtin; refine wpList_append_src _ _ 50 50 59 59 i0 _ 1 24 w.heap.size _ _ E N (bkCells gv 0 E) (bkCells gv E N) rfl rfl Try.underlying50 Try.underlying50 hi hz0 hz1 hz2 rfl (by omega) rfl rfl HO.out.1 HO.out.2.1 (one_bk HS.out.2.2) (by unfold maxLen; omega) (by omega) hz ?_; intro v' w5 hown5 hg5 hat5; have H5 := Lib.hid (show AppRel w gv E N 0 v' (.int .i64 2) w5 from ⟨HO.out.2.2.grown hg5 hz (fun g e => (own_block_lt HO.out.1 g e).1), .inr (.inr ⟨rfl, rfl, (Src.shape (Src.of_row hown5)).elim (fun a h => h.elim (fun c h => ⟨a, c, h, by rw [bkCells_app] at hown5; exact hown5⟩))⟩)⟩); clear hown5 hg5 hat5)
          go_roundg 0
          case measure => omega
          case rel => exact H5.out
        · obtain ⟨rfl, rfl, ya, yc, rfl, hown⟩ := h
          have HO := Lib.hid (And.intro hown hb)
          clear hown hb
          go_wp2_with fail
          go_ret
          exact ⟨_, rfl, HO.out.1, HO.out.2⟩
end Go.Proofs.Ytekcogoijlbmnaa.TabI
