/- Layer 9: a text's bucket. -/
import Derived.Test.YtekcogoijlbmnaaTabI2
import Derived.Test.YtekcogoijlbmnaaQuiet
namespace Go.Proofs.Ytekcogoijlbmnaa.TabI
open Go Go.RowKit Go.Proofs.Ytekcogoijlbmnaa.Mem Go.Proofs.Ytekcogoijlbmnaa.Tab

theorem idx_elder {H : ByteArray → Nat} {c : Con V} {k : ByteArray} (h : 0 < c.left ∧ c.E - c.left ≤ H k % c.E) (eb nb : Nat) : adr c eb nb (c.idx H k) = ⟨eb, H k % c.E, none⟩ ∨ c.E = 0 := by
  by_cases hE : c.E = 0
  · exact .inr hE
  · refine .inl ?_
    have : H k % c.E < c.E := Nat.mod_lt _ (by omega)
    unfold Con.idx adr
    rw [if_pos h, if_pos this]
theorem idx_now {H : ByteArray → Nat} {c : Con V} {k : ByteArray} (h : ¬ (0 < c.left ∧ c.E - c.left ≤ H k % c.E)) (eb nb : Nat) : adr c eb nb (c.idx H k) = ⟨nb, H k % c.N, none⟩ := by
  unfold Con.idx adr
  rw [if_neg h, if_neg (by omega), Nat.add_sub_cancel_left]

def OfAt (w : World) (p : Addr) (e : Ending) (w' : World) : Prop := e = .returned (.pointer (some p)) ∧ ∃ d, w' = w.drewN d
set_option maxHeartbeats 1000000 in
theorem of_elder {w : World} {b eb : Nat} {seed : Int} {k : ByteArray} {x : Int} (E lf y : Nat) (c0 : w.cell? ⟨b, 0, none⟩ = some (.int .u64 seed)) (c1 : w.cell? ⟨b, 1, none⟩ = some (.slice (some ⟨eb, 0, none⟩) E E)) (c3 : w.cell? ⟨b, 3, none⟩ = some (.int .i64 lf))
    (hof : ∀ w, Calls Try.prog 36 #[.int .u64 seed, .string k] w fun e w' => e = .returned (.int .u64 x) ∧ w = w')
    (hbE : ∀ w, Calls Try.prog 35 #[.int .u64 x, .int .i64 E] w fun e w' => e = .returned (.int .i64 (y : Nat)) ∧ w = w')
    (hl2 : (y : Int) < E) (hw : IntKind.i64.wrap ((E : Int) - lf) = (E : Int) - lf) (hd1 : decide (0 < lf) = true) (hd2 : decide ((E : Int) - lf ≤ y) = true) :
    Calls Try.prog 30 #[.pointer (some ⟨b, 0, none⟩), .string k] w (OfAt w ⟨eb, y, none⟩) := by
  unfold OfAt
  go_enter Try.func30, Try.ntmps30
  go_wp2_with (first | (go_at_call 36; refine (hof _).mono ?_; rintro e w' ⟨rfl, rfl⟩) | (go_at_call 35; refine (hbE _).mono ?_; rintro e w' ⟨rfl, rfl⟩))
  go_quiet (fail)
  go_wp2
  go_ret
  exact ⟨rfl, _, rfl⟩
set_option maxHeartbeats 1000000 in
theorem of_now1 {w : World} {b nb : Nat} {ea : Option Addr} {seed : Int} {k : ByteArray} {x y : Int} (E lf N z : Nat) (c0 : w.cell? ⟨b, 0, none⟩ = some (.int .u64 seed)) (c1 : w.cell? ⟨b, 1, none⟩ = some (.slice ea E E)) (c2 : w.cell? ⟨b, 2, none⟩ = some (.slice (some ⟨nb, 0, none⟩) N N)) (c3 : w.cell? ⟨b, 3, none⟩ = some (.int .i64 lf))
    (hof : ∀ w, Calls Try.prog 36 #[.int .u64 seed, .string k] w fun e w' => e = .returned (.int .u64 x) ∧ w = w')
    (hbE : ∀ w, Calls Try.prog 35 #[.int .u64 x, .int .i64 E] w fun e w' => e = .returned (.int .i64 y) ∧ w = w')
    (hbN : ∀ w, Calls Try.prog 35 #[.int .u64 x, .int .i64 N] w fun e w' => e = .returned (.int .i64 (z : Nat)) ∧ w = w')
    (hw : IntKind.i64.wrap ((E : Int) - lf) = (E : Int) - lf) (hd1 : decide (0 < lf) = true) (hd2 : decide ((E : Int) - lf ≤ y) = false) (hz1 : (z : Int) < N) :
    Calls Try.prog 30 #[.pointer (some ⟨b, 0, none⟩), .string k] w (OfAt w ⟨nb, z, none⟩) := by
  unfold OfAt
  go_enter Try.func30, Try.ntmps30
  go_wp2_with (first | (go_at_call 36; refine (hof _).mono ?_; rintro e w' ⟨rfl, rfl⟩) | (go_at_call 35; refine (hbE _).mono ?_; rintro e w' ⟨rfl, rfl⟩))
  go_quiet (fail)
  go_wp2
  go_quiet ((go_at_call 35; exact Qt.add_left (hbN _)))
  go_wp2
  go_ret
  exact ⟨rfl, _, World.drewN_drewN _ _ _⟩
set_option maxHeartbeats 1000000 in
theorem of_now0 {w : World} {b nb : Nat} {ea : Option Addr} {seed : Int} {k : ByteArray} {x y : Int} (E lf N z : Nat) (c0 : w.cell? ⟨b, 0, none⟩ = some (.int .u64 seed)) (c1 : w.cell? ⟨b, 1, none⟩ = some (.slice ea E E)) (c2 : w.cell? ⟨b, 2, none⟩ = some (.slice (some ⟨nb, 0, none⟩) N N)) (c3 : w.cell? ⟨b, 3, none⟩ = some (.int .i64 lf))
    (hof : ∀ w, Calls Try.prog 36 #[.int .u64 seed, .string k] w fun e w' => e = .returned (.int .u64 x) ∧ w = w')
    (hbE : ∀ w, Calls Try.prog 35 #[.int .u64 x, .int .i64 E] w fun e w' => e = .returned (.int .i64 y) ∧ w = w')
    (hbN : ∀ w, Calls Try.prog 35 #[.int .u64 x, .int .i64 N] w fun e w' => e = .returned (.int .i64 (z : Nat)) ∧ w = w')
    (hd1 : decide (0 < lf) = false) (hz1 : (z : Int) < N) :
    Calls Try.prog 30 #[.pointer (some ⟨b, 0, none⟩), .string k] w (OfAt w ⟨nb, z, none⟩) := by
  unfold OfAt
  go_enter Try.func30, Try.ntmps30
  go_wp2_with (first | (go_at_call 36; refine (hof _).mono ?_; rintro e w' ⟨rfl, rfl⟩) | (go_at_call 35; refine (hbE _).mono ?_; rintro e w' ⟨rfl, rfl⟩))
  go_quiet (fail)
  go_wp2
  go_quiet ((go_at_call 35; exact Qt.add_left (hbN _)))
  go_wp2
  go_ret
  exact ⟨rfl, _, World.drewN_drewN _ _ _⟩
theorem of_any {w : World} {b : Nat} {F : Nat → Prop} {seed : Int} {c : Con V} {many : Nat} {ea : Option Addr} {eb nb : Nat} {gv : Nat → Value} (h : AtW w b F seed c many ea eb nb gv) (h0 : 0 ≤ seed) (h1 : seed < 18446744073709551616)
    (k : ByteArray) (hk : k.size ≤ maxLen) (hle : c.left ≤ c.E) (hp : 0 < c.N) (hE : c.E ≤ 1099511627776) (hN : c.N ≤ 1099511627776) :
    Calls Try.prog 30 #[.pointer (some ⟨b, 0, none⟩), .string k] w (OfAt w (adr c eb nb (c.idx (TabI.hN seed) k))) := by
  have c0 : w.cell? ⟨b, 0, none⟩ = some (.int .u64 seed) := Mem.row_cell h.blk 0
  have c1 : w.cell? ⟨b, 1, none⟩ = some (.slice ea c.E c.E) := Mem.row_cell h.blk 1
  have c2 : w.cell? ⟨b, 2, none⟩ = some (.slice (some ⟨nb, 0, none⟩) c.N c.N) := Mem.row_cell h.blk 2
  have c3 : w.cell? ⟨b, 3, none⟩ = some (.int .i64 (c.left : Nat)) := Mem.row_cell h.blk 3
  have hof := Hash.of_any seed k h0 h1 hk
  have hr := Hash.ofI_range k.data.toList h0 h1
  have hbE : ∀ w, Calls Try.prog 35 #[.int .u64 (Hash.ofI seed k.data.toList), .int .i64 (c.E : Nat)] w fun e w' => e = .returned (.int .i64 (if c.E = 0 then 0 else ((TabI.hN seed k % c.E : Nat) : Int))) ∧ w = w' := fun w => by
    refine (Hash.below_any _ _ hr.1 hr.2 (by omega) w).mono ?_
    rintro e w' ⟨rfl, rfl⟩
    refine ⟨?_, rfl⟩
    by_cases e : c.E = 0
    · rw [if_pos e, e, below_zero]
    · rw [if_neg e, below_hN h0 h1 k (by omega)]
  have hbN : ∀ w, Calls Try.prog 35 #[.int .u64 (Hash.ofI seed k.data.toList), .int .i64 (c.N : Nat)] w fun e w' => e = .returned (.int .i64 ((TabI.hN seed k % c.N : Nat) : Int)) ∧ w = w' := fun w => by
    refine (Hash.below_any _ _ hr.1 hr.2 (by omega) w).mono ?_
    rintro e w' ⟨rfl, rfl⟩
    exact ⟨by rw [below_hN h0 h1 k hp], rfl⟩
  have hmN := Nat.mod_lt (TabI.hN seed k) hp
  by_cases hc : 0 < c.left ∧ c.E - c.left ≤ TabI.hN seed k % c.E
  · have hm := Nat.mod_lt (TabI.hN seed k) (show 0 < c.E by omega)
    rw [(idx_elder hc eb nb).resolve_right (by omega)]
    rw [if_neg (by omega)] at hbE
    have hea : ea = some ⟨eb, 0, none⟩ := by
      rcases h.eo with ⟨e, _⟩ | ⟨e, _⟩
      · omega
      · exact e
    rw [hea] at c1
    refine of_elder c.E c.left _ c0 c1 c3 hof hbE (by omega) (by rw [IntKind.wrap_i64]; omega) ?_ ?_
    · simp; omega
    · simp only [decide_eq_true_eq]; omega
  · rw [idx_now hc]
    obtain ⟨y, hy⟩ : ∃ y, (if c.E = 0 then 0 else ((TabI.hN seed k % c.E : Nat) : Int)) = y := ⟨_, rfl⟩
    rw [hy] at hbE
    by_cases hl0 : (0 : Int) < c.left
    · have hy1 : ¬ ((c.E : Int) - c.left ≤ y) := fun e2 => by
        rw [if_neg (by omega)] at hy
        exact hc ⟨by omega, by omega⟩
      refine of_now1 c.E c.left c.N _ c0 c1 c2 c3 hof hbE hbN (by rw [IntKind.wrap_i64]; omega) ?_ ?_ (by omega)
      · simp; omega
      · simp only [decide_eq_false_iff_not]; exact hy1
    · refine of_now0 c.E c.left c.N _ c0 c1 c2 c3 hof hbE hbN ?_ (by omega)
      simp; omega
end Go.Proofs.Ytekcogoijlbmnaa.TabI
