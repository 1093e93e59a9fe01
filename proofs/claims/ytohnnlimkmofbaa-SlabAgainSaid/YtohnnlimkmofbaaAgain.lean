/- The plain law of SlabAgain: what was taken and let go, the last one first, is taken again just as it was. -/
import Derived.Test.YtohnnlimkmofbaaSlab7
namespace Go.Proofs.Ytohnnlimkmofbaa.Again
open Go Go.Proofs.Ytohnnlimkmofbaa.Slab

/-- The slab behind the first i takes. -/
def S (budget : Int) (sz : Nat → Int) : Nat → St
  | 0 => new budget
  | i + 1 => ((S budget sz i).take (sz i)).2
/-- What the i-th of them answered. -/
def R (budget : Int) (sz : Nat → Int) (i : Nat) : (Int × Int) × Int := ((S budget sz i).take (sz i)).1
section
variable {budget : Int} {sz : Nat → Int}
theorem good (hb : -9223372036854775808 ≤ budget ∧ budget ≤ 9223372036854775807) (i : Nat) : Slab.Good i (S budget sz i) := by
  induction i with
  | zero => exact Slab.Good.new budget hb
  | succ i ih => exact ih.take (sz i)
theorem gone_nil (i : Nat) : ∀ k, (S budget sz i).gone k = [] := by
  induction i with
  | zero => exact fun k => rfl
  | succ i ih =>
    intro k
    show ((S budget sz i).take (sz i)).2.gone k = []
    rcases take_cases (S budget sz i) (sz i) with ⟨_, e⟩ | ⟨_, _, e⟩ | ⟨_, _, e⟩
    · rw [e]; exact ih k
    · rw [e]; exact ih k
    · rw [e, number_made (ih _)]; exact ih k
theorem bud (i : Nat) : (S budget sz i).budget = budget := by
  induction i with
  | zero => rfl
  | succ i ih =>
    show ((S budget sz i).take (sz i)).2.budget = budget
    rcases take_cases (S budget sz i) (sz i) with ⟨_, e⟩ | ⟨_, _, e⟩ | ⟨_, _, e⟩
    · rw [e]; exact ih
    · rw [e]; exact ih
    · rw [e, number_made (gone_nil i _)]; exact ih
theorem made_le (i : Nat) (k : Nat) : (S budget sz i).made k ≤ (S budget sz (i + 1)).made k := by
  show _ ≤ ((S budget sz i).take (sz i)).2.made k
  rcases take_cases (S budget sz i) (sz i) with ⟨_, e⟩ | ⟨_, _, e⟩ | ⟨_, _, e⟩
  · rw [e]; exact Int.le_refl _
  · rw [e]; exact Int.le_refl _
  · rw [e, number_made (gone_nil i _)]; simp only [put]; split
    · rename_i h; rw [h]; omega
    · exact Int.le_refl _

/-- The numbers of class k that were let go when the takes from the i-th on are undone. -/
def gl (budget : Int) (sz : Nat → Int) (n i k : Nat) : List Int :=
  (((List.range n).drop i).reverse).filterMap fun j => if (R budget sz j).2 = 0 ∧ (R budget sz j).1.1 = k then some (R budget sz j).1.2 else none
theorem gl_last (n k : Nat) : gl budget sz n n k = [] := by unfold gl; rw [List.drop_eq_nil_of_le (by simp)]; rfl
theorem gl_step {n i : Nat} (k : Nat) (h : i < n) : gl budget sz n i k = gl budget sz n (i + 1) k ++ (if (R budget sz i).2 = 0 ∧ (R budget sz i).1.1 = k then [(R budget sz i).1.2] else []) := by
  unfold gl
  rw [List.drop_eq_getElem_cons (by simpa using h)]
  simp only [List.getElem_range, List.reverse_cons, List.filterMap_append]
  congr 1
  by_cases hc : (R budget sz i).2 = 0 ∧ (R budget sz i).1.1 = k
  · simp [hc]
  · simp [hc]

/-- A slab like the one behind the first i takes, but for the numbers that were let go. -/
structure Like (budget : Int) (sz : Nat → Int) (n i : Nat) (s : St) : Prop where
  used : s.used = (S budget sz i).used
  inn : s.inn = (S budget sz i).inn
  bud : s.budget = budget
  made : s.made = (S budget sz n).made
  gone : ∀ k, s.gone k = gl budget sz n i k

theorem like_all (n : Nat) : Like budget sz n n (S budget sz n) := ⟨rfl, rfl, bud n, rfl, fun k => by rw [gl_last]; exact gone_nil n k⟩

/-- The i-th answer, parted. -/
theorem R_cases (i : Nat) : (((R budget sz i).2 = 4 ∨ (R budget sz i).2 = 5) ∧ S budget sz (i + 1) = S budget sz i ∧ ¬ (classN (sz i) < 6 ∧ (S budget sz i).used + bytesI (classN (sz i)) ≤ budget)) ∨
    (R budget sz i = ((((classN (sz i) : Nat) : Int), (S budget sz i).made (classN (sz i))), 0) ∧ classN (sz i) < 6 ∧ (S budget sz i).used + bytesI (classN (sz i)) ≤ budget ∧ (S budget sz (i + 1)).used = (S budget sz i).used + bytesI (classN (sz i)) ∧
      (S budget sz (i + 1)).inn = addIn (S budget sz i).inn (((classN (sz i) : Nat) : Int), (S budget sz i).made (classN (sz i)))) := by
  have hb := bud (budget := budget) (sz := sz) i
  rcases take_cases (S budget sz i) (sz i) with ⟨h6, e⟩ | ⟨h6, hx, e⟩ | ⟨h6, hx, e⟩
  · exact .inl ⟨.inl (by unfold R; rw [e]), by show ((S budget sz i).take (sz i)).2 = _; rw [e], fun h => by omega⟩
  · exact .inl ⟨.inr (by unfold R; rw [e]), by show ((S budget sz i).take (sz i)).2 = _; rw [e], fun h => by omega⟩
  · have hn := number_made (gone_nil (budget := budget) (sz := sz) i (classN (sz i)))
    rw [hn] at e
    refine .inr ⟨by unfold R; rw [e], h6, by omega, ?_, ?_⟩
    · show ((S budget sz i).take (sz i)).2.used = _; rw [e]
    · show ((S budget sz i).take (sz i)).2.inn = _; rw [e]

theorem undo_no {n i : Nat} {s : St} (hi : i < n) (h : Like budget sz n (i + 1) s) (he : (R budget sz i).2 ≠ 0) : Like budget sz n i s := by
  rcases R_cases (budget := budget) (sz := sz) i with ⟨_, e, _⟩ | ⟨e, _⟩
  · exact ⟨by rw [h.used, e], by rw [h.inn, e], h.bud, h.made, fun k => by rw [h.gone, gl_step k hi, if_neg (fun hc => he hc.1), List.append_nil]⟩
  · exact absurd (by rw [e]) he

theorem undo_yes {n i : Nat} {s : St} (hb : -9223372036854775808 ≤ budget ∧ budget ≤ 9223372036854775807) (hi : i < n) (h : Like budget sz n (i + 1) s) (he : (R budget sz i).2 = 0) :
    (s.free (R budget sz i).1).1 = 0 ∧ Like budget sz n i (s.free (R budget sz i).1).2 := by
  rcases R_cases (budget := budget) (sz := sz) i with ⟨e, _⟩ | ⟨e, h6, hx, hu, hinn⟩
  · rcases e with e | e <;> rw [e] at he <;> cases he
  · have hG := good (sz := sz) hb i
    have hn := number_made (gone_nil (budget := budget) (sz := sz) i (classN (sz i)))
    have hnew := hG.number_new (classN (sz i))
    rw [hn] at hnew
    rw [addIn_new hnew] at hinn
    have hin : (R budget sz i).1 ∈ s.inn := by rw [h.inn, hinn, e]; simp
    unfold St.free
    rw [if_pos hin]
    refine ⟨rfl, ⟨?_, ?_, h.bud, h.made, fun k => ?_⟩⟩
    · show s.used - bytesI (R budget sz i).1.1 = _
      rw [h.used, hu, e]; simp only; omega
    · show s.inn.erase (R budget sz i).1 = _
      rw [h.inn, hinn, e, List.erase_append_right _ hnew]; simp
    · show put s.gone _ _ k = _
      rw [gl_step k hi, ← h.gone k, e]
      simp only [put, true_and, Int.toNat_natCast]
      by_cases hk : k = classN (sz i)
      · subst hk; simp
      · rw [if_neg hk, if_neg (by omega), List.append_nil]

theorem redo {n i : Nat} {s : St} (hi : i < n) (h : Like budget sz n i s) :
    (s.take (sz i)).1 = R budget sz i ∧ Like budget sz n (i + 1) (s.take (sz i)).2 := by
  rcases R_cases (budget := budget) (sz := sz) i with ⟨e, hS, hx⟩ | ⟨e, h6, hx, hu, hinn⟩
  · have h1 : (s.take (sz i)).2 = s ∧ (s.take (sz i)).1 = R budget sz i := by
      unfold R St.take
      rw [h.used, h.bud, bud i]
      by_cases h6 : classN (sz i) = 6
      · rw [if_pos h6, if_pos h6]; exact ⟨rfl, rfl⟩
      · have := class_six (sz i)
        have hx' : budget < (S budget sz i).used + bytesI (classN (sz i)) := by
          rcases (by omega : budget < (S budget sz i).used + bytesI (classN (sz i)) ∨ (S budget sz i).used + bytesI (classN (sz i)) ≤ budget) with h1 | h1
          · exact h1
          · exact absurd ⟨by omega, h1⟩ hx
        rw [if_neg h6, if_neg h6, if_pos hx', if_pos hx']; exact ⟨rfl, rfl⟩
    rw [h1.1]
    refine ⟨h1.2, ⟨by rw [h.used, hS], by rw [h.inn, hS], h.bud, h.made, fun k => ?_⟩⟩
    have he : ¬ ((R budget sz i).2 = 0 ∧ (R budget sz i).1.1 = k) := fun hc => by rcases e with e | e <;> rw [e] at hc <;> cases hc.1
    rw [h.gone, gl_step k hi, if_neg he, List.append_nil]
  · have hgk := h.gone (classN (sz i))
    rw [gl_step _ hi, e] at hgk
    simp only [and_self, if_true] at hgk
    have hnum := number_last hgk
    rcases take_cases s (sz i) with ⟨h', _⟩ | ⟨_, h', _⟩ | ⟨_, _, et⟩
    · omega
    · rw [h.used, h.bud] at h'; omega
    · rw [et, hnum]
      refine ⟨by rw [e], ⟨?_, ?_, h.bud, h.made, fun k => ?_⟩⟩
      · show s.used + _ = _; rw [h.used, hu]
      · show addIn s.inn _ = _; rw [h.inn, hinn]
      · show put s.gone _ _ k = _
        simp only [put]
        by_cases hk : k = classN (sz i)
        · subst hk; simp
        · rw [if_neg hk, h.gone k, gl_step k hi, e, if_neg (by simp only [true_and]; omega), List.append_nil]
end
end Go.Proofs.Ytohnnlimkmofbaa.Again
