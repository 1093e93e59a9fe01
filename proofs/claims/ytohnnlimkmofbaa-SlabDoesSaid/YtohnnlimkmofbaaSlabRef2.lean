/- The document's own slab of layer 7: where it lies; New, Used, Has, Fits. -/
import Derived.Test.YtohnnlimkmofbaaSlabRef1
import Derived.Test.YtohnnlimkmofbaaErrs
import Derived.Deep.LoopGhost
import Derived.Deep.QuietTactic
import Derived.BigQuiet
namespace Go.Proofs.Ytohnnlimkmofbaa.RefSlab
open Go Go.RowKit Go.Proofs.Ytohnnlimkmofbaa.Slab Go.Proofs.Ytohnnlimkmofbaa.Mem

structure RSt where
  budget : Int
  inn : List (Int × Int)
  gone : List (Int × Int)
  made : Nat → Int
def rnew (budget : Int) : RSt := { budget, inn := [], gone := [], made := fun _ => 0 }
def rcells (r : RSt) (vi vg : Value) (gm : Nat) : Array Value := #[.int .i64 r.budget, vi, vg, .slice (some ⟨gm, 0, none⟩) 6 6]
def mcells (r : RSt) : Array Value := #[.int .i64 (r.made 0), .int .i64 (r.made 1), .int .i64 (r.made 2), .int .i64 (r.made 3), .int .i64 (r.made 4), .int .i64 (r.made 5)]
structure RAtW (w : World) (b : Nat) (F : Nat → Prop) (r : RSt) (vi vg : Value) (gm : Nat) : Prop where
  blk : w.heap[b]? = some (.cells (rcells r vi vg gm) 53 (0, 0))
  mad : w.heap[gm]? = some (.cells (mcells r) 3 (0, 0))
  ri : w.ownsRow 0 34 2 vi r.inn.length (cellsC r.inn)
  rg : w.ownsRow 0 34 2 vg r.gone.length (cellsC r.gone)
  fb : F b
  fm : F gm
  fi : ∀ g, vi.ownBlock = some g → F g
  fg : ∀ g, vg.ownBlock = some g → F g
  apart : ∀ g, vi.ownBlock = some g → vg.ownBlock ≠ some g
  lt : ∀ k, F k → k < w.heap.size
def RAt (w : World) (b : Nat) (F : Nat → Prop) (r : RSt) : Prop := ∃ vi vg gm, RAtW w b F r vi vg gm
section
variable {w w' : World} {b : Nat} {F : Nat → Prop} {r : RSt} {vi vg : Value} {gm : Nat}
theorem RAtW.same (h : RAtW w b F r vi vg gm) (hs : ∀ k, F k → w'.heap[k]? = w.heap[k]?) (hz : w.heap.size ≤ w'.heap.size) : RAtW w' b F r vi vg gm :=
  ⟨(hs _ h.fb).trans h.blk, (hs _ h.fm).trans h.mad, row_same h.ri fun g e => hs g (h.fi g e), row_same h.rg fun g e => hs g (h.fg g e), h.fb, h.fm, h.fi, h.fg, h.apart, fun k hk => Nat.lt_of_lt_of_le (h.lt k hk) hz⟩
theorem RAt.same (h : RAt w b F r) (hs : ∀ k, F k → w'.heap[k]? = w.heap[k]?) (hz : w.heap.size ≤ w'.heap.size) : RAt w' b F r := by
  obtain ⟨vi, vg, gm, h⟩ := h
  exact ⟨vi, vg, gm, h.same hs hz⟩
theorem RAt.lt (h : RAt w b F r) : ∀ k, F k → k < w.heap.size := by obtain ⟨_, _, _, h⟩ := h; exact h.lt
theorem RAt.below (h : RAt w b F r) (ho : Below w.heap.size w w') : RAt w' b F r := h.same (fun k hk => ho.block k (h.lt k hk)) ho.size
theorem RAt.only {G : Nat → Prop} (h : RAt w b F r) (ho : Only G w w') (hd : ∀ k, F k → ¬ G k) : RAt w' b F r := h.same (fun k hk => ho.same k (h.lt k hk) (hd k hk)) ho.size
end

theorem infoInt : (Try.prog.info? 3).map (fun i => (i.zero, i.size, i.bytes)) = some (some (.int .i64 0), 1, 8) := by kernel_rfl
theorem made6 : madeCells (Value.int .i64 0).cells (Int.toNat 6 * 1) = mcells (rnew 0) := by kernel_rfl
theorem make6 (w : World) : (Instr.makeSlice 47 (.int .i64 6) (.int .i64 6)).run Try.prog w = .ok (.slice (some ⟨w.heap.size, 0, none⟩) 6 6) (w.alloc (.cells (mcells (rnew 0)) 3)) := by
  obtain ⟨i0, hi, hz0, hz1, hz2⟩ := info_parts infoInt
  have := run_makeSlice (P := Try.prog) (w := w) 47 3 i0 _ Try.underlying47 hi hz0 .i64 .i64 6 6 (by decide) (by decide) (by rw [hz1]; decide) (by rw [hz2]; decide) (by decide)
  rw [this, hz1, made6]
  rfl

set_option maxHeartbeats 400000 in
theorem new_any (budget : Int) (w : World) : Calls Try.prog 18 #[.int .i64 budget] w fun e w' =>
    e = .returned (.pointer (some ⟨w.heap.size + 1, 0, none⟩)) ∧ w' = (w.alloc (.cells (mcells (rnew 0)) 3)).alloc (.cells (rcells (rnew budget) (.slice none 0 0) (.slice none 0 0) w.heap.size) 53) := by
  have hmk := make6
  go_enter Try.func18, Try.ntmps18
  go_wp2
  go_ret
  exact ⟨rfl, rfl⟩
theorem new_gives (budget : Int) (w : World) : Calls Try.prog 18 #[.int .i64 budget] w fun e w' =>
    ∃ (b : Nat) (F : Nat → Prop), e = .returned (.pointer (some ⟨b, 0, none⟩)) ∧ RAt w' b F (rnew budget) ∧ (∀ k, F k → w.heap.size ≤ k) ∧ Below w.heap.size w w' :=
  (new_any budget w).mono fun e w' ⟨he, hw⟩ => by
    subst hw
    refine ⟨_, fun k => k = w.heap.size ∨ k = w.heap.size + 1, he, ⟨.slice none 0 0, .slice none 0 0, w.heap.size, Mem.new_block2 w _ _, Mem.new_later (Mem.new_block w _) _, World.ownsRow_nil _ _ _ _, World.ownsRow_nil _ _ _ _, .inr rfl, .inl rfl, fun g e => (by cases e), fun g e => (by cases e), fun g e => (by cases e), ?_⟩, fun k hk => by omega, Mem.al (Mem.al (Below.refl _ _) _) _⟩
    rintro k (rfl | rfl) <;> simp <;> omega

/-- The cells of a row, read at an index. -/
theorem row_at {w : World} {v : Value} {xs : List (Int × Int)} (h : w.ownsRow 0 34 2 v xs.length (cellsC xs)) {k : Nat} {c : Int × Int} (hk : xs[k]? = some c) :
    ∃ g cap, v = .slice (some ⟨g, 0, none⟩) xs.length cap ∧ w.cell? ⟨g, k * 2, none⟩ = some (.int .i64 c.1) ∧ w.cell? ⟨g, k * 2 + 1, none⟩ = some (.int .i64 c.2) := by
  have hkl := (List.getElem?_eq_some_iff.1 hk).1
  obtain ⟨n, hn⟩ : ∃ n, xs.length = n + 1 := ⟨xs.length - 1, by omega⟩
  have ho := h
  rw [hn] at ho
  obtain ⟨g, cap, cur, e1, _, e2, _, _, e3⟩ := Mem.row_block ho
  obtain ⟨q1, q2⟩ := cellsC_get xs k c hk
  exact ⟨g, cap, by rw [hn]; exact e1, (Mem.row_cell e2 _).trans (e3 _ _ q1), (Mem.row_cell e2 _).trans (e3 _ _ q2)⟩
theorem row_shape {w : World} {v : Value} {xs : List (Int × Int)} (h : w.ownsRow 0 34 2 v xs.length (cellsC xs)) : ∃ a cap, v = .slice a xs.length cap := by
  rcases h.2 with ⟨e1, e2⟩ | ⟨g, cap, cur, e1, _⟩
  · exact ⟨none, 0, by rw [e1, e2]⟩
  · exact ⟨_, _, e1⟩

set_option maxHeartbeats 1000000 in
theorem used_any {w : World} {b : Nat} {F : Nat → Prop} {r : RSt} (h : RAt w b F r) (hl : r.inn.length ≤ 1000000) :
    Calls Try.prog 24 #[.pointer (some ⟨b, 0, none⟩)] w fun e w' => e = .returned (.int .i64 (total r.inn)) ∧ w = w' := by
  obtain ⟨vi, vg, gm, h⟩ := h
  obtain ⟨ya, yc, hv⟩ := row_shape h.ri
  have c1 : w.cell? ⟨b, 1, none⟩ = some vi := Mem.row_cell h.blk 1
  have HR := Lib.hid h.ri
  have hmax : ∀ j, total (r.inn.take j) ≤ 2048 * j := fun j => by
    induction j with
    | zero => simp [total]
    | succ j ih =>
      rcases hc : r.inn[j]? with _ | c
      · rw [List.take_add_one, hc]; simp; omega
      · rw [total_take hc]; have := bytes_range c.1; omega
  have HM := Lib.hid hmax
  clear h hmax
  subst hv
  go_enter Try.func24, Try.ntmps24
  go_wp2
  go_loopg [3, 4] r.inn.length (fun g n i wr => ∃ j : Nat, n = .int .i64 (total (r.inn.take j)) ∧ i = .int .i64 j ∧ g + j = r.inn.length ∧ wr = w)
  case atStart => exact ⟨0, rfl, rfl, by omega, rfl⟩
  case round =>
    obtain ⟨j, rfl, rfl, hg, rfl⟩ := hrel
    have HG3 := Lib.hid hg
    have htl := total_le r.inn j
    by_cases hj : j < r.inn.length
    · obtain ⟨⟨cj, nj⟩, hcj⟩ : ∃ q, r.inn[j]? = some q := ⟨_, List.getElem?_eq_getElem hj⟩
      obtain ⟨g', cap', hya, z0, z1⟩ := row_at HR.out hcj
      injection hya with hya hle hyc
      clear hle
      subst hya hyc
      have hji : (j : Int) < r.inn.length := by omega
      have htk := total_take hcj
      have htl1 := total_le r.inn (j + 1)
      have hmx := HM.out (j + 1)
      have hbr := bytes_range cj
      have hB := fun w => rbytes_any cj w
      simp only at htk
      have hwr : IntKind.i64.wrap (total (r.inn.take j) + bytesI cj) = total (r.inn.take (j + 1)) := by rw [htk, IntKind.wrap_i64]; omega
      have HT := Lib.hid hwr
      clear hg hcj htk htl1 hwr
      generalize total (r.inn.take j) = t at *
      generalize bytesI cj = bc at *
      go_wp2_with (refine (hB _).mono ?_; rintro e w' ⟨rfl, rfl⟩)
      go_roundg (r.inn.length - (j + 1))
      case measure => have := HG3.out; omega
      case rel => exact ⟨j + 1, congrArg (Value.int .i64) ((IntWalk.i64_left _).symm.trans HT.out), by go_num, by have := HG3.out; omega, rfl⟩
    · have hjl : j = r.inn.length := by omega
      have hjs : (r.inn.length : Int) ≤ j := by omega
      have htt : total (r.inn.take j) = total r.inn := by rw [hjl, List.take_length]
      rw [htt]
      clear hg htl htt hjl
      obtain ⟨u, hu⟩ : ∃ u, total r.inn = u := ⟨_, rfl⟩
      have HU := Lib.hid hu
      simp only [hu]
      clear hu
      go_wp2
      go_ret
      exact ⟨ret_int HU.out.symm, rfl⟩
end Go.Proofs.Ytohnnlimkmofbaa.RefSlab
