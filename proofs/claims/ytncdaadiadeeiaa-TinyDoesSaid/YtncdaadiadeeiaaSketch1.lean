/- The walks over layer 5: New, get, raise, halve. -/
import Derived.Test.YtncdaadiadeeiaaProg
import Derived.Test.YtncdaadiadeeiaaSpecSketch
import Derived.Test.YtncdaadiadeeiaaMem
import Derived.WalkKit
import Derived.WalkSpells
import Derived.WalkLawsBesides
import Derived.KernelRfl
import Derived.Lib.Hide
import Derived.Deep.RegionLaw
import Derived.Deep.LoopGhost
import Derived.Deep.QuietTactic
import Derived.BigQuiet
import Derived.StillTailTactics
namespace Go.Proofs.Ytncdaadiadeeiaa.Sketch
open Go Go.RowKit Go.Proofs.Ytncdaadiadeeiaa.Mem

theorem ret_int {k : IntKind} {a b : Int} (h : a = b) : Ending.returned (.int k a) = .returned (.int k b) := by rw [h]
def cells (k : St) : Array Value := ((.int .u64 k.seed) :: ((List.range 128).map (fun j => .int .u8 (byt k.c j)) ++ [.int .i64 k.age])).toArray
def At (w : World) (b : Nat) (k : St) : Prop := w.heap[b]? = some (.cells (cells k) 66 (0, 0))
theorem cells_seed (k : St) : (cells k)[0]? = some (.int .u64 k.seed) := rfl
theorem cells_age (k : St) : (cells k)[129]? = some (.int .i64 k.age) := by
  unfold cells
  simp only [List.getElem?_toArray]
  rw [List.getElem?_cons_succ, List.getElem?_append_right (by simp)]
  simp
theorem cells_byte (k : St) {j : Nat} (h : j < 128) : (cells k)[j + 1]? = some (.int .u8 (byt k.c j)) := by
  unfold cells
  simp only [List.getElem?_toArray]
  rw [List.getElem?_cons_succ, List.getElem?_append_left (by simp; exact h)]
  simp [h]
theorem cells_set {k k' : St} {j : Nat} {v : Int} (hj : j < 128) (hs : k'.seed = k.seed) (ha : k'.age = k.age) (hv : byt k'.c j = v) (ho : ∀ i, i < 128 → i ≠ j → byt k'.c i = byt k.c i) :
    (cells k).setIfInBounds (j + 1) (.int .u8 v) = cells k' := by
  unfold cells
  rw [List.setIfInBounds_toArray, List.set_cons_succ, List.set_append_left _ _ (by simp; exact hj), hs, ha]
  congr 3
  refine List.ext_getElem? fun i => ?_
  rw [List.getElem?_set]
  by_cases hi : i < 128
  · by_cases h : j = i
    · subst h; simp [hj, hv]
    · simp [h, hi, ho i hi (fun e => h e.symm)]
  · by_cases h : j = i
    · omega
    · simp [h, hi]
theorem cells_set_age (k : St) (a : Int) : (cells k).setIfInBounds 129 (.int .i64 a) = cells { k with age := a } := by
  unfold cells
  rw [List.setIfInBounds_toArray, List.set_cons_succ, List.set_append_right _ _ (by simp)]
  simp
theorem zero_sketch (w : World) : (zeroValue 66).run Try.prog w = .ok (.agg (cells (new 0))) w := by
  have h : Try.t66.zero = some (.agg (cells (new 0))) := by kernel_rfl
  unfold zeroValue
  go_simp
theorem new_any (seed : Int) (w : World) : Calls Try.prog 20 #[.int .u64 seed] w fun e w' =>
    e = .returned (.pointer (some ⟨w.heap.size, 0, none⟩)) ∧ w' = w.alloc (.cells (cells (new seed)) 66) := by
  have hz := zero_sketch
  have hne : (cells (new 0) = #[]) = False := by simp [cells]
  have hset : (cells (new 0)).setIfInBounds 0 (.int .u64 seed) = cells (new seed) := by
    unfold cells
    rw [List.setIfInBounds_toArray, List.set_cons_zero]
    rfl
  go_enter Try.func20, Try.ntmps20
  go_wp2
  go_ret
  exact ⟨rfl, rfl⟩
/-- New: a sketch that has counted nothing. -/
theorem new_gives (seed : Int) (w : World) : Calls Try.prog 20 #[.int .u64 seed] w fun e w' =>
    ∃ b : Nat, e = .returned (.pointer (some ⟨b, 0, none⟩)) ∧ At w' b (new seed) ∧ w.heap.size ≤ b ∧ Below w.heap.size w w' :=
  (new_any seed w).mono fun e w' ⟨he, hw⟩ => by
    subst hw
    exact ⟨_, he, Mem.new_block w _, Nat.le_refl _, Mem.al (Below.refl _ _) _⟩
theorem age_any {w : World} {b : Nat} {k : St} (h : At w b k) : Calls Try.prog 23 #[.pointer (some ⟨b, 0, none⟩)] w fun e w' => e = .returned (.int .i64 k.age) ∧ w = w' := by
  have c1 : w.cell? ⟨b, 129, none⟩ = some (.int .i64 k.age) := (Mem.row_cell h 129).trans (cells_age k)
  clear h
  go_enter Try.func23, Try.ntmps23
  go_wp2
  go_ret
  exact ⟨rfl, rfl⟩
theorem nib_all : ∀ a : Fin 16, ∀ d : Fin 16, (bits BinOp.and IntKind.u8 (((a.1 + 16 * d.1 : Nat) : Int) / 2 ^ 0) 15 = (a.1 : Int)) ∧ (bits BinOp.and IntKind.u8 (((a.1 + 16 * d.1 : Nat) : Int) / 2 ^ 4) 15 = (d.1 : Int)) := by decide +kernel
theorem nib (a d : Nat) (ha : a ≤ 15) (hd : d ≤ 15) : (bits BinOp.and IntKind.u8 (((a + 16 * d : Nat) : Int) / 2 ^ 0) 15 = (a : Int)) ∧ (bits BinOp.and IntKind.u8 (((a + 16 * d : Nat) : Int) / 2 ^ 4) 15 = (d : Int)) := nib_all ⟨a, by omega⟩ ⟨d, by omega⟩
theorem get_law {k : St} (hk : Ok k) (row at_ : Nat) :
    wrap64 (bits BinOp.and IntKind.u8 (byt k.c (row * 32 + at_ / 2) / 2 ^ (4 * (at_ % 2))) 15) = (k.c (row * 64 + at_) : Int) := by
  have h0 := nib _ _ (hk.c15 (2 * (row * 32 + at_ / 2))) (hk.c15 (2 * (row * 32 + at_ / 2) + 1))
  unfold byt
  rcases Nat.mod_two_eq_zero_or_one at_ with h | h
  · rw [h, Nat.mul_zero, h0.1, show 2 * (row * 32 + at_ / 2) = row * 64 + at_ from by omega]
    have := hk.c15 (row * 64 + at_)
    unfold wrap64; omega
  · rw [h, Nat.mul_one, h0.2, show 2 * (row * 32 + at_ / 2) + 1 = row * 64 + at_ from by omega]
    have := hk.c15 (row * 64 + at_)
    unfold wrap64; omega
set_option maxHeartbeats 400000 in
theorem get_any {w : World} {b : Nat} {k : St} (h : At w b k) (hk : Ok k) {row at_ : Nat} (hr : row < 4) (ha : at_ < 64) :
    Calls Try.prog 52 #[.pointer (some ⟨b, 0, none⟩), .int .i64 row, .int .i64 at_] w fun e w' => e = .returned (.int .i64 (k.c (row * 64 + at_))) ∧ w = w' := by
  have c1 : w.cell? ⟨b, 1 + row * 32 + at_ / 2, none⟩ = some (.int .u8 (byt k.c (row * 32 + at_ / 2))) := by rw [show 1 + row * 32 + at_ / 2 = row * 32 + at_ / 2 + 1 from by omega]; exact (Mem.row_cell h _).trans (cells_byte k (by omega))
  go_enter Try.func52, Try.ntmps52
  go_wp2
  go_ret
  exact ⟨ret_int (get_law hk row at_), rfl⟩
def St.raise (k : St) (i : Nat) : St := { k with c := up k.c i }
theorem Ok.raise {k : St} (h : Ok k) (i : Nat) : Ok (k.raise i) := ⟨up_15 h.c15 i, h.a0, h.a1, h.s0, h.s1⟩
theorem raise_cells (k : St) {row at_ : Nat} (hr : row < 4) (ha : at_ < 64) (hlt : k.c (row * 64 + at_) < 15) {v : Int} (hv : v = byt k.c (row * 32 + at_ / 2) + 16 ^ (at_ % 2)) :
    (cells k).setIfInBounds (row * 32 + at_ / 2 + 1) (.int .u8 v) = cells (k.raise (row * 64 + at_)) := by
  have hu : ∀ i, (k.raise (row * 64 + at_)).c i = if i = row * 64 + at_ then k.c i + 1 else k.c i := fun i => by
    show up k.c (row * 64 + at_) i = _
    unfold up
    by_cases h : i = row * 64 + at_
    · subst h; rw [if_pos ⟨rfl, hlt⟩, if_pos rfl]
    · rw [if_neg (fun e => h e.1), if_neg h]
  refine cells_set (by omega) rfl rfl ?_ fun i hi hne => ?_
  · unfold byt
    rw [hv, hu, hu]
    unfold byt
    rcases Nat.mod_two_eq_zero_or_one at_ with h | h
    · rw [if_pos (by omega), if_neg (by omega), h]; omega
    · rw [if_neg (by omega), if_pos (by omega), h]; omega
  · unfold byt
    rw [hu, hu, if_neg (by omega), if_neg (by omega)]
def RaisePost (w : World) (b : Nat) (k : St) (i : Nat) (e : Ending) (w' : World) : Prop := e = .returned (.tuple #[]) ∧ At w' b (k.raise i) ∧ Only (fun j => j = b) w w'
theorem byt_range {k : St} (hk : Ok k) (j : Nat) : 0 ≤ byt k.c j ∧ byt k.c j ≤ 255 := by
  have h0 := hk.c15 (2 * j)
  have h1 := hk.c15 (2 * j + 1)
  unfold byt; omega
set_option maxHeartbeats 1000000 in
theorem raise_any {w : World} {b : Nat} {k : St} (h : At w b k) (hk : Ok k) {row at_ : Nat} (hr : row < 4) (ha : at_ < 64) :
    Calls Try.prog 49 #[.pointer (some ⟨b, 0, none⟩), .int .i64 row, .int .i64 at_] w (RaisePost w b k (row * 64 + at_)) := by
  have c1 : w.cell? ⟨b, 1 + row * 32 + at_ / 2, none⟩ = some (.int .u8 (byt k.c (row * 32 + at_ / 2))) := by rw [show 1 + row * 32 + at_ / 2 = row * 32 + at_ / 2 + 1 from by omega]; exact (Mem.row_cell h _).trans (cells_byte k (by omega))
  have f1 : w.frozen? ⟨b, 1 + row * 32 + at_ / 2, none⟩ = false := Mem.row_free h _
  have hg := get_any h hk hr ha
  by_cases hlt : k.c (row * 64 + at_) < 15
  · have hfin : ∀ v w', v = byt k.c (row * 32 + at_ / 2) + 16 ^ (at_ % 2) → w' = (w.setCell ⟨b, 1 + row * 32 + at_ / 2, none⟩ (.int .u8 v)).drew → RaisePost w b k (row * 64 + at_) (.returned (.tuple #[])) w' := fun v w' hv e => by
      subst e
      refine ⟨rfl, ?_, ((Only.refl (fun j => j = b) w).setCell (.inl rfl) _).drew⟩
      have := Mem.row_set h (1 + row * 32 + at_ / 2) (.int .u8 v)
      rw [show 1 + row * 32 + at_ / 2 = row * 32 + at_ / 2 + 1 from by omega, raise_cells k hr ha hlt hv] at this
      rw [show 1 + row * 32 + at_ / 2 = row * 32 + at_ / 2 + 1 from by omega]
      exact this
    have hbr := byt_range hk (row * 32 + at_ / 2)
    have hv0 : at_ % 2 = 0 → byt k.c (row * 32 + at_ / 2) + 1 ≤ 255 := fun e => by
      have h1 := hk.c15 (2 * (row * 32 + at_ / 2) + 1)
      rw [show row * 64 + at_ = 2 * (row * 32 + at_ / 2) from by omega] at hlt
      unfold byt; omega
    have hv1 : at_ % 2 = 1 → byt k.c (row * 32 + at_ / 2) + 16 ≤ 255 := fun e => by
      have h1 := hk.c15 (2 * (row * 32 + at_ / 2))
      rw [show row * 64 + at_ = 2 * (row * 32 + at_ / 2) + 1 from by omega] at hlt
      unfold byt; omega
    obtain ⟨m, hm⟩ : ∃ m, at_ / 2 = m := ⟨_, rfl⟩
    rw [hm] at c1 f1 hbr hv0 hv1 hfin
    have hd : (at_ : Int) / 2 = m := by omega
    have hd0 : (0 : Int) ≤ m := by omega
    have hd1 : (m : Int) < 32 := by omega
    have hdw : IntKind.i64.wrap (m : Int) = m := by rw [IntKind.wrap_i64]; omega
    have hr0 : (0 : Int) ≤ row := by omega
    have hr1 : (row : Int) < 4 := by omega
    have HF := Lib.hid hfin
    have hli : (k.c (row * 64 + at_) : Int) < 15 := by omega
    generalize byt k.c (row * 32 + m) = v at *
    rcases Nat.mod_two_eq_zero_or_one at_ with h2 | h2
    · have hm2 : (at_ : Int).tmod 2 = 0 := by rw [Int.tmod_eq_emod_of_nonneg (by omega)]; omega
      have hw4 : IntKind.i64.wrap 0 = 0 := by decide
      have HV : Hid ((v + 1) % 256 = v + 1) := by have := hv0 h2; exact Lib.hid (by omega)
      clear h hk hlt hfin hv0 hv1 hbr hm
      go_enter Try.func49, Try.ntmps49
      go_wp2_with (go_at_call 52; refine hg.mono ?_; rintro e w' ⟨rfl, rfl⟩)
      refine wp_region_still_tail 18 (by kernel_rfl) (by kernel_rfl) ?_
      simp only [List.take_succ_cons, List.take_zero, List.drop_succ_cons, List.drop_zero]
      repeat still_step
      refine wpStill_nil ?_
      change wpList _ _ _ _ _ w.drew
      go_wp2
      go_end0
      exact HF.out _ _ (by rw [h2, HV.out]; rfl) rfl
    · have hm2 : (at_ : Int).tmod 2 = 1 := by rw [Int.tmod_eq_emod_of_nonneg (by omega)]; omega
      have hw4 : IntKind.i64.wrap 4 = 4 := by decide
      have HV : Hid ((v + 16) % 256 = v + 16) := by have := hv1 h2; exact Lib.hid (by omega)
      clear h hk hlt hfin hv0 hv1 hbr hm
      go_enter Try.func49, Try.ntmps49
      go_wp2_with (go_at_call 52; refine hg.mono ?_; rintro e w' ⟨rfl, rfl⟩)
      refine wp_region_still_tail 18 (by kernel_rfl) (by kernel_rfl) ?_
      simp only [List.take_succ_cons, List.take_zero, List.drop_succ_cons, List.drop_zero]
      repeat still_step
      refine wpStill_nil ?_
      change wpList _ _ _ _ _ w.drew
      go_wp2
      go_end0
      exact HF.out _ _ (by rw [h2, HV.out]; rfl) rfl
  · have hid : k.raise (row * 64 + at_) = k := by
      unfold St.raise
      rw [show up k.c (row * 64 + at_) = k.c from funext fun i => by unfold up; rw [if_neg (fun e => hlt e.2)]]
    have H := Lib.hid (And.intro h hid)
    have hli : (15 : Int) ≤ (k.c (row * 64 + at_) : Int) := by omega
    clear h hid hk
    go_enter Try.func49, Try.ntmps49
    go_wp2_with (go_at_call 52; refine hg.mono ?_; rintro e w' ⟨rfl, rfl⟩)
    go_end0
    exact ⟨rfl, by rw [H.out.2]; exact H.out.1, Only.refl _ _⟩

/-- Halving, a byte of counters after the other: so many rows, and so many bytes of the next one. -/
def halfTo (c : Nat → Nat) (n : Nat) : Nat → Nat := fun i => if i < 2 * n then c i / 2 else c i
theorem byt_half_all : ∀ a : Fin 16, ∀ d : Fin 16, bits BinOp.and IntKind.u8 (((a.1 + 16 * d.1 : Nat) : Int) / 2) 119 = ((a.1 / 2 + 16 * (d.1 / 2) : Nat) : Int) := by decide +kernel
theorem byt_half {c : Nat → Nat} (h : ∀ i, c i ≤ 15) (j : Nat) : bits BinOp.and IntKind.u8 (byt c j / 2) 119 = byt (half c) j := by
  have h0 := h (2 * j)
  have h1 := h (2 * j + 1)
  exact byt_half_all ⟨c (2 * j), by omega⟩ ⟨c (2 * j + 1), by omega⟩
theorem halfTo_cells (k : St) (n : Nat) (hn : n < 128) : (cells { k with c := halfTo k.c n }).setIfInBounds (n + 1) (.int .u8 (byt (half k.c) n)) = cells { k with c := halfTo k.c (n + 1) } := by
  refine cells_set hn rfl rfl ?_ fun i _ hne => ?_
  · unfold byt halfTo half
    simp only
    rw [if_pos (by omega), if_pos (by omega)]
  · unfold byt halfTo
    simp only
    by_cases h : i < n
    · rw [if_pos (by omega), if_pos (by omega), if_pos (by omega), if_pos (by omega)]
    · rw [if_neg (by omega), if_neg (by omega), if_neg (by omega), if_neg (by omega)]
theorem halfTo_byt (c : Nat → Nat) (n : Nat) : byt (halfTo c n) n = byt c n := by
  unfold byt halfTo
  rw [if_neg (by omega), if_neg (by omega)]
theorem halfTo_zero (k : St) : cells { k with c := halfTo k.c 0 } = cells k := by
  have : halfTo k.c 0 = k.c := funext fun i => by unfold halfTo; rw [if_neg (by omega)]
  rw [this]
theorem halfTo_all (k : St) : cells { k with c := halfTo k.c 128 } = cells { k with c := half k.c } := by
  have h : (List.range 128).map (fun j => Value.int .u8 (byt (halfTo k.c 128) j)) = (List.range 128).map (fun j => Value.int .u8 (byt (half k.c) j)) := List.map_congr_left fun j hj => by
    have : j < 128 := by simpa using hj
    unfold byt halfTo half
    rw [if_pos (by omega), if_pos (by omega)]
  unfold cells
  simp only [h]
set_option maxHeartbeats 2000000 in
theorem halve_any {w : World} {b : Nat} {k : St} (h : At w b k) (hk : ∀ i, k.c i ≤ 15) :
    Calls Try.prog 51 #[.pointer (some ⟨b, 0, none⟩)] w fun e w' => e = .returned (.tuple #[]) ∧ At w' b { k with c := half k.c, age := 320 } ∧ Only (fun j => j = b) w w' := by
  have h0 : At w b { k with c := halfTo k.c 0 } := by unfold At; rw [halfTo_zero]; exact h
  have H0 := Lib.hid h0
  have HK := Lib.hid hk
  clear h h0 hk
  go_enter Try.func51, Try.ntmps51
  go_wp2
  go_loopg [2, 3, 4] 4 (fun g _ _ i wr => ∃ m : Nat, i = .int .i64 m ∧ g + m = 4 ∧ Hid (At wr b { k with c := halfTo k.c (32 * m) } ∧ Only (fun j => j = b) w wr))
  case atStart => exact ⟨0, rfl, by omega, Lib.hid ⟨H0.out, Only.refl _ _⟩⟩
  case round =>
    obtain ⟨m, rfl, hg, HA⟩ := hrel
    have HG := Lib.hid hg
    clear H0
    by_cases hm : m < 4
    · have hm0 : (0 : Int) ≤ m := by omega
      have hm1 : (m : Int) < 4 := by omega
      clear hg hm
      go_wp2
      go_loopg [3, 7] 32 (fun g _ i wr => ∃ j : Nat, i = .int .i64 j ∧ g + j = 32 ∧ Hid (At wr b { k with c := halfTo k.c (32 * m + j) } ∧ Only (fun j => j = b) w wr))
      case atStart => exact ⟨0, rfl, by omega, HA⟩
      case round =>
        obtain ⟨j, rfl, hgj, HB⟩ := hrel
        have HJ := Lib.hid hgj
        clear HA
        by_cases hj : j < 32
        · have hj0 : (0 : Int) ≤ j := by omega
          have hj1 : (j : Int) < 32 := by omega
          have c1 : wr.cell? ⟨b, 1 + m * 32 + j, none⟩ = some (.int .u8 (byt k.c (32 * m + j))) := by
            rw [show 1 + m * 32 + j = 32 * m + j + 1 from by omega, ← halfTo_byt k.c (32 * m + j)]
            exact (Mem.row_cell HB.out.1 _).trans (cells_byte _ (by omega))
          have f1 : wr.frozen? ⟨b, 1 + m * 32 + j, none⟩ = false := Mem.row_free HB.out.1 _
          clear hgj hj
          go_wp2
          refine wp_region_still_tail 17 (by kernel_rfl) (by kernel_rfl) ?_
          simp only [List.take_succ_cons, List.take_zero, List.drop_succ_cons, List.drop_zero]
          repeat still_step
          refine wpStill_nil ?_
          change wpList _ _ _ _ _ wr.drew
          go_wp2
          go_roundg (32 - (j + 1))
          case measure => have := HJ.out; omega
          case rel =>
            refine ⟨j + 1, by go_num, by have := HJ.out; omega, Lib.hid ⟨?_, (HB.out.2.setCell (.inl rfl) _).drew⟩⟩
            rw [byt_half HK.out]
            have h1 := Mem.row_set HB.out.1 (1 + m * 32 + j) (.int .u8 (byt (half k.c) (32 * m + j)))
            rw [show 1 + m * 32 + j = 32 * m + j + 1 from by omega, halfTo_cells k _ (by omega)] at h1
            rw [show 1 + m * 32 + j = 32 * m + j + 1 from by omega]
            exact h1
        · have hj4 : j = 32 := by omega
          subst hj4
          clear hgj hj
          go_wp2
          go_roundg (4 - (m + 1))
          case measure => have := HG.out; omega
          case rel => exact ⟨m + 1, by go_num, by have := HG.out; omega, HB⟩
    · have hm4 : m = 4 := by omega
      subst hm4
      clear hg hm
      have hA := HA.out.1
      unfold At at hA
      rw [halfTo_all] at hA
      have c1 := Mem.row_cell hA 129
      have f1 := Mem.row_free hA 129
      rw [cells_age] at c1
      have h1 := Mem.row_set hA 129 (.int .i64 320)
      rw [cells_set_age] at h1
      have H1 := Lib.hid h1
      clear hA h1
      go_wp2
      go_end0
      exact ⟨rfl, H1.out, HA.out.2.setCell (.inl rfl) _⟩
end Go.Proofs.Ytncdaadiadeeiaa.Sketch
