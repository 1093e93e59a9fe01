/- The document's own sketch of layer 5: the same state, as 256 numbers; its walks. -/
import Derived.Test.YtncdaadiadeeiaaSketch4
import Derived.Test.YtncdaadiadeeiaaHashRef
import Derived.Deep.WholeRow
namespace Go.Proofs.Ytncdaadiadeeiaa.SketchRef
open Go Go.RowKit Go.Proofs.Ytncdaadiadeeiaa.Mem Go.Proofs.Ytncdaadiadeeiaa.Sketch

def rcells (c : Nat → Nat) : Array Value := ((List.range 256).map (fun i => Value.int .i64 (c i : Nat))).toArray
structure RAt (w : World) (b g : Nat) (k : St) : Prop where
  blk : w.heap[b]? = some (.cells #[.int .u64 k.seed, .slice (some ⟨g, 0, none⟩) 256 256, .int .i64 k.age] 40 (0, 0))
  row : w.heap[g]? = some (.cells (rcells k.c) 3 (0, 0))
  ne : b ≠ g
theorem rcells_at (c : Nat → Nat) {i : Nat} (h : i < 256) : (rcells c)[i]? = some (.int .i64 (c i : Nat)) := by
  unfold rcells
  simp [h]
theorem rcells_set {c d : Nat → Nat} {i : Nat} (h : i < 256) (ho : ∀ j, j < 256 → j ≠ i → d j = c j) : (rcells c).setIfInBounds i (.int .i64 (d i : Nat)) = rcells d := by
  unfold rcells
  rw [List.setIfInBounds_toArray]
  congr 1
  refine List.ext_getElem? fun j => ?_
  rw [List.getElem?_set]
  by_cases hj : j < 256
  · by_cases hi : i = j
    · subst hi; simp [hj]
    · simp [hi, hj, ho j hj (fun e => hi e.symm)]
  · by_cases hi : i = j
    · omega
    · simp [hi, hj]
section
variable {w w' : World} {b g : Nat} {k : St}
theorem RAt.lt (h : RAt w b g k) : b < w.heap.size ∧ g < w.heap.size := ⟨(Array.getElem?_eq_some_iff.1 h.blk).1, (Array.getElem?_eq_some_iff.1 h.row).1⟩
theorem RAt.below (h : RAt w b g k) (hb : Below w.heap.size w w') : RAt w' b g k := ⟨(hb.block b h.lt.1).trans h.blk, (hb.block g h.lt.2).trans h.row, h.ne⟩
theorem RAt.only (h : RAt w b g k) {F : Nat → Prop} (ho : Only F w w') (hF : ¬ F b ∧ ¬ F g) : RAt w' b g k := ⟨(ho.same b h.lt.1 hF.1).trans h.blk, (ho.same g h.lt.2 hF.2).trans h.row, h.ne⟩
theorem RAt.setC (h : RAt w b g k) {i : Nat} (hi : i < 256) {d : Nat → Nat} (ho : ∀ j, j < 256 → j ≠ i → d j = k.c j) : RAt (w.setCell ⟨g, i, none⟩ (.int .i64 (d i : Nat))) b g { k with c := d } :=
  ⟨(Below.heap_setCell _ _ _ _ h.ne).trans h.blk, by have := Mem.row_set h.row i (.int .i64 (d i : Nat)); rwa [rcells_set hi ho] at this, h.ne⟩
theorem RAt.setAge (h : RAt w b g k) (a : Int) : RAt (w.setCell ⟨b, 2, none⟩ (.int .i64 a)) b g { k with age := a } :=
  ⟨Mem.row_set h.blk 2 (.int .i64 a), (Below.heap_setCell _ _ _ _ (fun e => h.ne e.symm)).trans h.row, h.ne⟩
end
theorem infoInt : (Try.prog.info? 3).map (fun i => (i.zero, i.size, i.bytes)) = some (some (.int .i64 0), 1, 8) := by kernel_rfl
theorem made256 : madeCells (Value.int .i64 0).cells (Int.toNat 256 * 1) = rcells (fun _ => 0) := by kernel_rfl
theorem make256 (w : World) : (Instr.makeSlice 38 (.int .i64 256) (.int .i64 256)).run Try.prog w = .ok (.slice (some ⟨w.heap.size, 0, none⟩) 256 256) (w.alloc (.cells (rcells fun _ => 0) 3)) := by
  obtain ⟨i0, hi, hz0, hz1, hz2⟩ := info_parts infoInt
  have := run_makeSlice (P := Try.prog) (w := w) 38 3 i0 _ Try.underlying38 hi hz0 .i64 .i64 256 256 (by decide) (by decide) (by rw [hz1]; decide) (by rw [hz2]; decide) (by decide)
  rw [this, hz1, made256]
  rfl
theorem new_gives (seed : Int) (w : World) : Calls Try.prog 24 #[.int .u64 seed] w fun e w' =>
    ∃ b g : Nat, e = .returned (.pointer (some ⟨b, 0, none⟩)) ∧ RAt w' b g (new seed) ∧ (w.heap.size ≤ b ∧ w.heap.size ≤ g) ∧ Below w.heap.size w w' := by
  have hmk := make256
  go_enter Try.func24, Try.ntmps24
  go_wp2
  go_ret
  exact ⟨_, _, rfl, ⟨Mem.new_block2 w _ _, Mem.new_later (Mem.new_block w _) _, by omega⟩, ⟨by omega, by omega⟩, Mem.al (Mem.al (Below.refl _ _) _) _⟩
theorem of_nth (seed : Int) (s : ByteArray) (k : Nat) (hs : s.size ≤ maxLen) (w : World) :
    Calls Try.prog 60 #[.int .u64 (IntKind.u64.wrap (seed + (k : Int))), .string s] w fun e w' => e = .returned (.int .u64 (Hash.nthI seed s.data.toList k)) ∧ w = w' :=
  HashRef.of_any _ s (Hash.wrap_range _).1 (Hash.wrap_range _).2 hs w
set_option maxHeartbeats 400000 in
theorem place_any {w : World} {b : Nat} {seed : Int} (hc : w.cell? ⟨b, 0, none⟩ = some (.int .u64 seed)) (s : ByteArray) (hs : s.size ≤ maxLen) {i : Nat} (hi : i < 4) :
    Calls Try.prog 53 #[.pointer (some ⟨b, 0, none⟩), .string s, .int .i64 i] w fun e w' => e = .returned (.int .i64 (pl seed s.data.toList i : Nat)) ∧ w = w' := by
  have hof := fun w => of_nth seed s i hs w
  have hbel := fun w => HashRef.below_any (Hash.nthI seed s.data.toList i) 64 (Hash.nthI_range _ _ _).1 (Hash.nthI_range _ _ _).2 (by omega) w
  rw [col_int] at hbel
  have hcl := col_lt seed s.data.toList i
  have hpl : ((i : Int) * 64 + (col seed s.data.toList i : Nat)) = (pl seed s.data.toList i : Nat) := by unfold pl; omega
  have hlp : pl seed s.data.toList i < 256 := by unfold pl; omega
  obtain ⟨cc, hcc⟩ : ∃ cc, col seed s.data.toList i = cc := ⟨_, rfl⟩
  rw [hcc] at hbel hcl hpl
  have HP := Lib.hid hpl
  clear hcc hpl
  go_enter Try.func53, Try.ntmps53
  go_wp2_with (first | (go_at_call 60; refine (hof _).mono ?_; rintro e w' ⟨rfl, rfl⟩) | (go_at_call 59; refine (hbel _).mono ?_; rintro e w' ⟨rfl, rfl⟩))
  go_ret
  exact ⟨ret_int HP.out, rfl⟩

def halfN (c : Nat → Nat) (n : Nat) : Nat → Nat := fun i => if i < n then c i / 2 else c i
theorem halfN_rcells (c : Nat → Nat) : rcells (halfN c 256) = rcells (half c) := by
  have h : (List.range 256).map (fun j => Value.int .i64 (halfN c 256 j : Nat)) = (List.range 256).map (fun j => Value.int .i64 (half c j : Nat)) := List.map_congr_left fun j hj => by
    have : j < 256 := by simpa using hj
    unfold halfN half
    rw [if_pos this]
  unfold rcells
  rw [h]
theorem halfN_other {c : Nat → Nat} {m j : Nat} (hj : j ≠ m) : halfN c (m + 1) j = halfN c m j := by
  unfold halfN
  by_cases h1 : j < m
  · rw [if_pos (by omega), if_pos h1]
  · rw [if_neg (by omega), if_neg h1]
theorem halfN_self (c : Nat → Nat) (m : Nat) : halfN c (m + 1) m = halfN c m m / 2 := by
  unfold halfN
  rw [if_pos (by omega), if_neg (by omega)]
set_option maxRecDepth 20000 in
set_option maxHeartbeats 4000000 in
theorem add_any {w : World} {b g : Nat} {k : St} (h : RAt w b g k) (hk : Ok k) (s : ByteArray) (hs : s.size ≤ maxLen) :
    Calls Try.prog 26 #[.pointer (some ⟨b, 0, none⟩), .string s] w fun e w' => e = .returned (.bool (k.add s.data.toList).1) ∧ RAt w' b g (k.add s.data.toList).2 ∧ Only (fun j => j = b ∨ j = g) w w' := by
  have H := Lib.hid (And.intro h hk)
  clear h hk
  go_enter Try.func26, Try.ntmps26
  go_wp2
  go_loopg [5] 4 (fun gk i wr => ∃ m : Nat, i = .int .i64 m ∧ gk + m = 4 ∧ Hid (RAt wr b g { k with c := ups k.seed s.data.toList k.c m } ∧ Only (fun j => j = b ∨ j = g) w wr))
  case atStart => exact ⟨0, rfl, by omega, Lib.hid ⟨H.out.1, Only.refl _ _⟩⟩
  case round =>
    obtain ⟨m, rfl, hg, HA⟩ := hrel
    have c0 := Mem.row_cell HA.out.1.blk 0
    have c1 := Mem.row_cell HA.out.1.blk 1
    have c2 := Mem.row_cell HA.out.1.blk 2
    have f2 := Mem.row_free HA.out.1.blk 2
    simp only [List.getElem?_toArray, List.getElem?_cons_zero, List.getElem?_cons_succ] at c0 c1 c2
    by_cases hm : m < 4
    · have hpl : pl k.seed s.data.toList m < 256 := by have := col_lt k.seed s.data.toList m; unfold pl; omega
      have hplace := place_any c0 s hs hm
      have cp := Mem.row_cell HA.out.1.row (pl k.seed s.data.toList m)
      have fp := Mem.row_free HA.out.1.row (pl k.seed s.data.toList m)
      rw [rcells_at _ hpl] at cp
      have hnext : ups k.seed s.data.toList k.c (m + 1) = up (ups k.seed s.data.toList k.c m) (pl k.seed s.data.toList m) := rfl
      obtain ⟨p, hp⟩ : ∃ p, pl k.seed s.data.toList m = p := ⟨_, rfl⟩
      rw [hp] at hpl hplace cp fp hnext
      obtain ⟨v, hv⟩ : ∃ v, ups k.seed s.data.toList k.c m p = v := ⟨_, rfl⟩
      simp only at cp
      rw [hv] at cp
      have hpi : (p : Int) < 256 := by omega
      have hmi : (m : Int) < 4 := by omega
      have HG := Lib.hid (And.intro hg (And.intro hnext hv))
      clear hg hnext hv c2 f2 hp
      by_cases h15 : v < 15
      · have h15i : (v : Int) < 15 := by omega
        go_wp2_with (go_at_call 53; refine hplace.mono ?_; rintro e w' ⟨rfl, rfl⟩)
        go_roundg (4 - (m + 1))
        case measure => have := HG.out.1; omega
        case rel =>
          have hset := HA.out.1.setC (d := ups k.seed s.data.toList k.c (m + 1)) hpl (fun j _ hj => by rw [HG.out.2.1]; exact up_other hj)
          have hval : ups k.seed s.data.toList k.c (m + 1) p = v + 1 := by
            rw [HG.out.2.1]; unfold up; rw [HG.out.2.2, if_pos ⟨rfl, h15⟩]
          rw [hval] at hset
          refine ⟨m + 1, by go_num, by have := HG.out.1; omega, Lib.hid ⟨?_, HA.out.2.setCell (.inl (.inr rfl)) _⟩⟩
          rw [Int.natCast_add] at hset
          exact hset
      · have h15i : (15 : Int) ≤ v := by omega
        go_wp2_with (go_at_call 53; refine hplace.mono ?_; rintro e w' ⟨rfl, rfl⟩)
        go_roundg (4 - (m + 1))
        case measure => have := HG.out.1; omega
        case rel =>
          have hval : ups k.seed s.data.toList k.c (m + 1) = ups k.seed s.data.toList k.c m := by
            rw [HG.out.2.1]
            exact funext fun j => by unfold up; rw [if_neg (fun e => by rw [HG.out.2.2] at e; exact h15 e.2)]
          exact ⟨m + 1, by go_num, by have := HG.out.1; omega, Lib.hid (by rw [hval]; exact HA.out)⟩
    · obtain rfl : m = 4 := by omega
      have hA1 := HA.out.1.setAge (k.age + 1)
      have HB := Lib.hid (And.intro hA1 (HA.out.2.setCell (p := ⟨b, 2, none⟩) (.inl (.inl rfl)) (.int .i64 (k.age + 1))))
      obtain ⟨a0, a1⟩ : 0 ≤ k.age ∧ k.age < 640 := ⟨H.out.2.a0, H.out.2.a1⟩
      clear hA1 hg c0
      by_cases hag : k.age + 1 < 640
      · have hadd : k.add s.data.toList = (false, { k with c := ups k.seed s.data.toList k.c 4, age := k.age + 1 }) := by unfold St.add; rw [if_pos hag]
        have HD := Lib.hid hadd
        clear hadd
        go_wp2
        go_ret
        rw [HD.out]
        exact ⟨rfl, HB.out.1, HB.out.2⟩
      · have hadd : k.add s.data.toList = (true, { k with c := half (ups k.seed s.data.toList k.c 4), age := 320 }) := by unfold St.add; rw [if_neg hag]
        have HD := Lib.hid hadd
        clear hadd c1
        go_wp2
        go_loopg [7] 256 (fun gk i wr => ∃ m : Nat, i = .int .i64 m ∧ gk + m = 256 ∧ Hid (RAt wr b g ⟨k.seed, halfN (ups k.seed s.data.toList k.c 4) m, k.age + 1⟩ ∧ Only (fun j => j = b ∨ j = g) w wr))
        case atStart =>
          refine ⟨0, rfl, by omega, Lib.hid ⟨?_, HB.out.2⟩⟩
          rw [show halfN (ups k.seed s.data.toList k.c 4) 0 = ups k.seed s.data.toList k.c 4 from funext fun i => by unfold halfN; rw [if_neg (by omega)]]
          exact HB.out.1
        case round =>
          obtain ⟨m, rfl, hg, HC⟩ := hrel
          have c1 := Mem.row_cell HC.out.1.blk 1
          have c2 := Mem.row_cell HC.out.1.blk 2
          have f2 := Mem.row_free HC.out.1.blk 2
          simp only [List.getElem?_toArray, List.getElem?_cons_zero, List.getElem?_cons_succ] at c1 c2
          have HG := Lib.hid hg
          by_cases hm : m < 256
          · have hmi : (m : Int) < 256 := by omega
            have hm0 : (0 : Int) ≤ m := by omega
            have cm := Mem.row_cell HC.out.1.row m
            have fm := Mem.row_free HC.out.1.row m
            rw [rcells_at _ hm] at cm
            simp only at cm
            obtain ⟨v, hv⟩ : ∃ v, halfN (ups k.seed s.data.toList k.c 4) m m = v := ⟨_, rfl⟩
            rw [hv] at cm
            obtain ⟨v2, hv2⟩ : ∃ v2, v / 2 = v2 := ⟨_, rfl⟩
            have hd : (v : Int) / 2 = v2 := by omega
            have h15 : v ≤ 15 := by rw [← hv]; unfold halfN; rw [if_neg (by omega)]; exact ups_15 H.out.2.c15 _ _ _ _
            have hdw : IntKind.i64.wrap (v2 : Int) = v2 := by rw [IntKind.wrap_i64]; omega
            have HV := Lib.hid (And.intro hv hv2)
            clear hg hv hv2 h15 c2 f2
            go_wp2
            refine wp_region_still_tail 14 (by kernel_rfl) (by kernel_rfl) ?_
            simp only [List.take_succ_cons, List.take_zero, List.drop_succ_cons, List.drop_zero]
            repeat still_step
            refine wpStill_nil ?_
            change wpList _ _ _ _ _ wr.drew
            go_wp2
            go_roundg (256 - (m + 1))
            case measure => have := HG.out; omega
            case rel =>
              have hset := HC.out.1.setC (d := halfN (ups k.seed s.data.toList k.c 4) (m + 1)) hm (fun j _ hj => halfN_other hj)
              have hval : halfN (ups k.seed s.data.toList k.c 4) (m + 1) m = v2 := by
                rw [← HV.out.2, ← HV.out.1, halfN_self]
              rw [hval] at hset
              exact ⟨m + 1, by go_num, by have := HG.out; omega, Lib.hid ⟨⟨hset.blk, hset.row, hset.ne⟩, (HC.out.2.setCell (.inl (.inr rfl)) _).drew⟩⟩
          · obtain rfl : m = 256 := by omega
            have hA2 := HC.out.1.setAge 320
            have HE := Lib.hid (And.intro hA2 (HC.out.2.setCell (p := ⟨b, 2, none⟩) (.inl (.inl rfl)) (.int .i64 320)))
            clear hA2 hg hm
            go_wp2
            go_ret
            rw [HD.out]
            refine ⟨rfl, ⟨HE.out.1.blk, ?_, HE.out.1.ne⟩, HE.out.2⟩
            rw [HE.out.1.row, halfN_rcells]
set_option maxRecDepth 20000 in
set_option maxHeartbeats 2000000 in
theorem count_any {w : World} {b g : Nat} {k : St} (h : RAt w b g k) (hk : Ok k) (s : ByteArray) (hs : s.size ≤ maxLen) :
    Calls Try.prog 27 #[.pointer (some ⟨b, 0, none⟩), .string s] w fun e w' => e = .returned (.int .i64 (k.count s.data.toList : Nat)) ∧ ∃ n, w' = w.drewN n := by
  have H := Lib.hid (And.intro h hk)
  clear h hk
  go_enter Try.func27, Try.ntmps27
  go_wp2
  go_loopg [5, 6] 4 (fun gk n i wr => ∃ (m d : Nat), n = .int .i64 (cnt k.seed s.data.toList k.c m : Nat) ∧ i = .int .i64 m ∧ gk + m = 4 ∧ Hid (wr = w.drewN d))
  case atStart => exact ⟨0, 0, rfl, rfl, by omega, Lib.hid rfl⟩
  case round =>
    obtain ⟨m, d, rfl, rfl, hg, HD⟩ := hrel
    have hR : RAt wr b g k := by rw [HD.out]; exact ⟨H.out.1.blk, H.out.1.row, H.out.1.ne⟩
    have c0 := Mem.row_cell hR.blk 0
    have c1 := Mem.row_cell hR.blk 1
    simp only [List.getElem?_toArray, List.getElem?_cons_zero, List.getElem?_cons_succ] at c0 c1
    by_cases hm : m < 4
    · have hpl : pl k.seed s.data.toList m < 256 := by have := col_lt k.seed s.data.toList m; unfold pl; omega
      have hplace := fun d => place_any (w := wr.drewN d) c0 s hs hm
      have cp := Mem.row_cell hR.row (pl k.seed s.data.toList m)
      rw [rcells_at _ hpl] at cp
      have hnext : cnt k.seed s.data.toList k.c (m + 1) = min (cnt k.seed s.data.toList k.c m) (k.c (pl k.seed s.data.toList m)) := rfl
      obtain ⟨p, hp⟩ : ∃ p, pl k.seed s.data.toList m = p := ⟨_, rfl⟩
      rw [hp] at hpl hplace cp hnext
      obtain ⟨v, hv⟩ : ∃ v, k.c p = v := ⟨_, rfl⟩
      obtain ⟨x, hx⟩ : ∃ x, cnt k.seed s.data.toList k.c m = x := ⟨_, rfl⟩
      rw [hv] at cp
      rw [hv, hx] at hnext
      rw [hx]
      have hpi : (p : Int) < 256 := by omega
      have hp0 : (0 : Int) ≤ p := by omega
      have hmi : (m : Int) < 4 := by omega
      have HG := Lib.hid (And.intro hg hnext)
      clear hg hnext hv hp hx hR
      by_cases hlt : v < x
      · have hlti : (v : Int) < x := by omega
        go_wp2
        go_quiet ((go_at_call 53; exact Calls.quiet_of_same ((hplace _).mono fun _ _ ⟨h, e⟩ => ⟨h, e.symm⟩)))
        go_wp2
        go_roundg (4 - (m + 1))
        case measure => have := HG.out.1; omega
        case rel => exact ⟨m + 1, d + nq, by rw [HG.out.2]; congr 2; omega, by go_num, by have := HG.out.1; omega, Lib.hid (by rw [HD.out]; simp [World.drewN, Nat.add_assoc])⟩
      · have hlti : (x : Int) ≤ v := by omega
        go_wp2
        go_quiet ((go_at_call 53; exact Calls.quiet_of_same ((hplace _).mono fun _ _ ⟨h, e⟩ => ⟨h, e.symm⟩)))
        go_wp2
        go_roundg (4 - (m + 1))
        case measure => have := HG.out.1; omega
        case rel => exact ⟨m + 1, d + nq, by rw [HG.out.2]; congr 2; omega, by go_num, by have := HG.out.1; omega, Lib.hid (by rw [HD.out]; simp [World.drewN, Nat.add_assoc])⟩
    · obtain rfl : m = 4 := by omega
      clear hg c0 c1 hR
      go_wp2
      go_ret
      exact ⟨rfl, d, HD.out⟩
end Go.Proofs.Ytncdaadiadeeiaa.SketchRef
