/- The document's own slab of layer 7: Has, Fits. -/
import Derived.Test.YtohnnlimkmofbaaSlabRef2
import Derived.Test.YtohnnlimkmofbaaSlab4
namespace Go.Proofs.Ytohnnlimkmofbaa.RefSlab
open Go Go.RowKit Go.Proofs.Ytohnnlimkmofbaa.Slab Go.Proofs.Ytohnnlimkmofbaa.Mem

set_option maxHeartbeats 1000000 in
theorem has_any {w : World} {b : Nat} {F : Nat → Prop} {r : RSt} (h : RAt w b F r) (hl : r.inn.length ≤ 1000000) (c n : Int) :
    Calls Try.prog 21 #[.pointer (some ⟨b, 0, none⟩), .agg #[.int .i64 c, .int .i64 n]] w fun e w' => e = .returned (.bool (decide ((c, n) ∈ r.inn))) ∧ Below w.heap.size w w' := by
  have hst : Below w.heap.size w (w.alloc (.cells #[.int .i64 c, .int .i64 n] 34)) := Mem.al (Below.refl _ _) _
  have h1 := h.below hst
  have hk := Mem.new_block w (.cells #[.int .i64 c, .int .i64 n] 34)
  have H1 := Lib.hid (And.intro h1 hk)
  have H0 := Lib.hid hst
  clear h h1 hk hst
  go_enter Try.func21, Try.ntmps21
  go_wp2
  generalize w.alloc (.cells #[.int .i64 c, .int .i64 n] 34) = w1 at *
  obtain ⟨sz, hsz⟩ : ∃ sz, w.heap.size = sz := ⟨_, rfl⟩
  rw [hsz] at H1
  simp only [hsz]
  go_loopg [5] r.inn.length (fun g i wr => ∃ j : Nat, i = .int .i64 j ∧ g + j = r.inn.length ∧ Below w1.heap.size w1 wr ∧ (c, n) ∉ r.inn.take j)
  case atStart => exact ⟨0, rfl, by omega, Below.refl _ _, by simp⟩
  case round =>
    obtain ⟨j, rfl, hg, hb, hno⟩ := hrel
    have HG := Lib.hid hg
    obtain ⟨vi, vg, gm, h⟩ := H1.out.1.below hb
    obtain ⟨ya, yc, hv⟩ := row_shape h.ri
    have c1 : wr.cell? ⟨b, 1, none⟩ = some vi := Mem.row_cell h.blk 1
    have hkb := (hb.block sz (Array.getElem?_eq_some_iff.1 H1.out.2).1).trans H1.out.2
    have p0 := Mem.row_cell hkb 0
    have p1 := Mem.row_cell hkb 1
    simp only [List.getElem?_toArray, List.getElem?_cons_zero, List.getElem?_cons_succ] at p0 p1
    have HB := Lib.hid (And.intro hb hno)
    by_cases hj : j < r.inn.length
    · obtain ⟨⟨cj, nj⟩, hcj⟩ : ∃ q, r.inn[j]? = some q := ⟨_, List.getElem?_eq_getElem hj⟩
      obtain ⟨g', cap', hya, z0, z1⟩ := row_at h.ri hcj
      subst hv
      injection hya with hya hle hyc
      clear hle
      subst hya hyc
      have hji : (j : Int) < r.inn.length := by omega
      have htk : r.inn.take (j + 1) = r.inn.take j ++ [(cj, nj)] := by rw [List.take_add_one, hcj]; rfl
      have HT := Lib.hid (And.intro htk hcj)
      clear h hkb hb hno hcj htk hg
      by_cases hcc : cj = c
      · subst hcc
        by_cases hnn : nj = n
        · subst hnn
          go_wp2
          go_quiet (fail)
          go_wp2
          go_ret
          have hm : (cj, nj) ∈ r.inn := List.mem_of_getElem? HT.out.2
          exact ⟨by simp [hm], Mem.tr H0.out (Mem.tr HB.out.1 (Mem.dn (Below.refl _ _) _))⟩
        · have hnb : (nj == n) = false := by simp; exact hnn
          have HN := Lib.hid hnn
          go_wp2
          go_quiet (fail)
          go_wp2
          go_roundg (r.inn.length - (j + 1))
          case measure => have := HG.out; omega
          case rel => exact ⟨j + 1, by go_num, by have := HG.out; omega, Mem.tr HB.out.1 (Mem.dn (Below.refl _ _) _), by rw [HT.out.1]; simp; exact ⟨HB.out.2, fun e => HN.out e.symm⟩⟩
      · have hnb : (cj == c) = false := by simp; exact hcc
        have HN := Lib.hid hcc
        go_wp2
        go_quiet (fail)
        go_wp2
        go_roundg (r.inn.length - (j + 1))
        case measure => have := HG.out; omega
        case rel => exact ⟨j + 1, by go_num, by have := HG.out; omega, Mem.tr HB.out.1 (Mem.dn (Below.refl _ _) _), by rw [HT.out.1]; simp; exact ⟨HB.out.2, fun e => absurd e.symm HN.out⟩⟩
    · have hjs : (r.inn.length : Int) ≤ j := by omega
      have hno' : (c, n) ∉ r.inn := by rw [List.take_of_length_le (by omega)] at hno; exact hno
      have HN := Lib.hid hno'
      subst hv
      clear h hkb hb hno hno' hg
      go_wp2
      go_ret
      exact ⟨by simp [HN.out], Mem.tr H0.out HB.out.1⟩
theorem total_most (l : List (Int × Int)) : total l ≤ 2048 * l.length := by
  induction l with
  | nil => simp [total]
  | cons c l ih => rw [total_cons, List.length_cons]; have := bytes_range c.1; omega
/-- What Fits answers, of what is in use. -/
def ft (u budget size less : Int) : Bool := decide (classN size < 6 ∧ 0 ≤ less ∧ less ≤ u ∧ u - less + bytesI (classN size) ≤ budget)
set_option maxHeartbeats 2000000 in
theorem fits_any {w : World} {b : Nat} {F : Nat → Prop} {r : RSt} (h : RAt w b F r) (hl0 : r.inn.length ≤ 1000000) (size less : Int) (hl : -9223372036854775808 ≤ less ∧ less ≤ 9223372036854775807) :
    Calls Try.prog 23 #[.pointer (some ⟨b, 0, none⟩), .int .i64 size, .int .i64 less] w fun e w' => e = .returned (.bool (ft (total r.inn) r.budget size less)) ∧ ∃ n, w' = w.drewN n := by
  have hu := used_any h hl0
  obtain ⟨vi, vg, gm, h⟩ := h
  have c0 : w.cell? ⟨b, 0, none⟩ = some (.int .i64 r.budget) := Mem.row_cell h.blk 0
  have u0 := total_pos r.inn
  have u1 := total_most r.inn
  have u2 : total r.inn ≤ 2251799813685248 := by omega
  obtain ⟨l0, l1⟩ := hl
  clear h u1
  obtain ⟨u, hue⟩ : ∃ u, total r.inn = u := ⟨_, rfl⟩
  rw [hue] at u0 u2
  simp only [hue] at hu
  simp only [hue]
  clear hue
  by_cases h6 : classN size = 6
  · have hr : ft u r.budget size less = false := by unfold ft; simp [h6]
    rw [hr]
    have e0 : (classE size == 0) = false := by rw [(classE_no h6).1]; rfl
    clear h6 hr
    go_enter Try.func23, Try.ntmps23
    go_wp2_with (first | (go_at_call 10; refine (rclass_any _ _).mono ?_; rintro e w' ⟨rfl, rfl⟩) | (go_at_call 24; refine hu.mono ?_; rintro e w' ⟨rfl, rfl⟩))
    go_quiet (fail)
    go_wp2
    go_ret
    exact ⟨rfl, _, rfl⟩
  have hc := class_six size
  have e0 : (classE size == 0) = true := by rw [(classE_ok (by omega)).1]; rfl
  have er : classR size = (classN size : Nat) := (classE_ok (by omega)).2
  have hb := bytes_range (classN size : Nat)
  by_cases h0 : 0 ≤ less
  case neg =>
    have hr : ft u r.budget size less = false := by unfold ft; simp; intros; omega
    rw [hr]
    have d0 : decide ((0 : Int) ≤ less) = false := by simpa using h0
    clear h6 hr er hb hc h0
    go_enter Try.func23, Try.ntmps23
    go_wp2_with (first | (go_at_call 10; refine (rclass_any _ _).mono ?_; rintro e w' ⟨rfl, rfl⟩) | (go_at_call 24; refine hu.mono ?_; rintro e w' ⟨rfl, rfl⟩))
    go_quiet (fail)
    go_wp2
    go_ret
    exact ⟨rfl, _, rfl⟩
  have d0 : decide ((0 : Int) ≤ less) = true := by simpa using h0
  by_cases h1 : less ≤ u
  case neg =>
    have hr : ft u r.budget size less = false := by unfold ft; simp; intros; omega
    rw [hr]
    have d1 : decide (less ≤ u) = false := by simpa using h1
    clear h6 hr er hb hc h1
    go_enter Try.func23, Try.ntmps23
    go_wp2_with (first | (go_at_call 10; refine (rclass_any _ _).mono ?_; rintro e w' ⟨rfl, rfl⟩) | (go_at_call 24; refine hu.mono ?_; rintro e w' ⟨rfl, rfl⟩))
    go_quiet (fail)
    go_wp2
    go_ret
    exact ⟨rfl, _, rfl⟩
  have d1 : decide (less ≤ u) = true := by simpa using h1
  have hr : ft u r.budget size less = decide (u - less + bytesI (classR size) ≤ r.budget) := by
    unfold ft; rw [er]
    by_cases hx : u - less + bytesI ((classN size : Nat) : Int) ≤ r.budget
    · simp [hx, h0, h1]; omega
    · simp [hx]
  rw [hr]
  rw [← er] at hb
  obtain ⟨hb0, hb1⟩ := hb
  have w1 : IntKind.i64.wrap (u - less) = u - less := by rw [IntKind.wrap_i64]; omega
  have w2 : IntKind.i64.wrap (u - less + bytesI (classR size)) = u - less + bytesI (classR size) := by rw [IntKind.wrap_i64]; omega
  clear h6 hr er hc
  go_enter Try.func23, Try.ntmps23
  go_wp2_with (first | (go_at_call 10; refine (rclass_any _ _).mono ?_; rintro e w' ⟨rfl, rfl⟩) | (go_at_call 24; refine hu.mono ?_; rintro e w' ⟨rfl, rfl⟩))
  go_quiet ((go_at_call 12; exact Calls.quiet_of_same ((rbytes_any _ _).mono fun _ _ ⟨h, e⟩ => ⟨h, e.symm⟩)))
  go_wp2
  go_ret
  exact ⟨rfl, _, rfl⟩
end Go.Proofs.Ytohnnlimkmofbaa.RefSlab
