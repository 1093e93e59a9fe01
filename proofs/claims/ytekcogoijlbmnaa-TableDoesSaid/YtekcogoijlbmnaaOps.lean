/- An argument that is a slice of structs, as a list: each element's cells by a function of one's own. -/
import Derived.Test.YtekcogoijlbmnaaProg
import Derived.Deep.Slices
import Derived.Deep.Fields
import Derived.ChangeSame
import Derived.WalkKit
namespace Go.Proofs.Ytekcogoijlbmnaa.Ops
open Go Go.ChangeShapes Go.WideShapes Go.Deep Go.RowKit

/-- The elements of a list lie in memory, K cells each, from the address x on. -/
def Lies {α : Type} (w : World) (K : Nat) (enc : α → List Value) (x : Option Addr) (l : List α) : Prop :=
  ∀ i a, l[i]? = some a → ∃ B off, x = some ⟨B, off, none⟩ ∧ B < w.heap.size ∧ ∀ j u, (enc a)[j]? = some u → w.cell? ⟨B, off + i * K + j, none⟩ = some u
theorem Lies.same {α : Type} {w w' : World} {K : Nat} {enc : α → List Value} {x : Option Addr} {l : List α} (h : Lies w K enc x l) (hb : Below w.heap.size w w') : Lies w' K enc x l := fun i a ha => by
  obtain ⟨B, off, hx, hB, hc⟩ := h i a ha
  exact ⟨B, off, hx, Nat.lt_of_lt_of_le hB hb.size, fun j u hu => (World.cell?_of_block (hb.block B hB)).trans (hc j u hu)⟩

theorem block_of_cell {w : World} {a : Addr} {u : Value} (h : w.cell? a = some u) : a.block < w.heap.size := by
  unfold World.cell? at h
  rcases Nat.lt_or_ge a.block w.heap.size with h1 | h1
  · exact h1
  · rw [Array.getElem?_eq_none h1] at h; simp at h

section
variable {H : Type} {enc : TypeId × Value → H} {P : Program} {w : World} {base : Nat} {spare : Nat → Bool} {held : Bool}
theorem open_list {α : Type} (encA : α → List Value) (ok : α → Prop) {r : Reach} {b0 : Nat} {t e : TypeId} {K : Nat} {v : Value} {d : DataW H} {ps : List MemPlace} (ht : P.underlying t = some (.slice e)) (hK : P.cellsOf e = K) (hK0 : 0 < K)
    (hE : ∀ a, (encA a).length = K) (hel : ∀ n cs y, DataW.trod enc P w base spare held n e cs = some y → ∃ a, cs = encA a ∧ ok a)
    (hval : Value.okWide P w r b0 t v) (hd : DataW.Trod enc P w base spare held t v d ps) :
    ∃ (x : Option Addr) (n c : Nat) (l : List α), v = .slice x n c ∧ n = l.length ∧ n ≤ maxLen ∧ (∀ a ∈ l, ok a) ∧ Lies w K encA x l := by
  obtain ⟨x, n, c, rfl⟩ := okWide_slice ht hval
  obtain ⟨fuel, hf⟩ := hd
  rcases open_slice ht hf with ⟨h0, _⟩ | ⟨a, len, cap, m, n', D, Pl, hcs, hb, hl, hm, hmm, hx, hi⟩
  · simp [Value.cells] at h0
    obtain ⟨rfl, rfl, rfl⟩ := h0
    exact ⟨none, 0, 0, [], rfl, rfl, by unfold maxLen; omega, fun a ha => (by cases ha), fun i a ha => (by simp at ha)⟩
  · simp [Value.cells] at hcs
    obtain ⟨rfl, rfl, rfl⟩ := hcs
    have hlm : n ≤ m := by rw [hmm]; split <;> omega
    have hget : ∀ i, i < n → ∃ q : α, ok q ∧ ∃ B off, a = ⟨B, off, none⟩ ∧ B < w.heap.size ∧ ∀ j u, (encA q)[j]? = some u → w.cell? ⟨B, off + i * K + j, none⟩ = some u := fun i hin => by
      obtain ⟨cs', hc, ht'⟩ := hi i (by omega)
      obtain ⟨q, hq, hok⟩ := hel n' cs' _ ht'
      obtain ⟨_, hcl, hat⟩ := World.cells?_some hc
      rw [hK] at hcl hat
      refine ⟨q, hok, ?_⟩
      have h0 := hat 0 hK0
      obtain ⟨B, off, sp⟩ := a
      have hsp : sp = none := by
        obtain ⟨cs0, hc0, _⟩ := hi 0 (by omega)
        obtain ⟨_, hcl0, hat0⟩ := World.cells?_some hc0
        rw [hK] at hcl0 hat0
        have h00 := hat0 0 hK0
        rw [List.getElem?_eq_getElem (by omega)] at h00
        simpa [Addr.add] using World.cell?_spot h00
      subst hsp
      have hadd : ∀ k, (⟨B, off, none⟩ : Addr).add k = ⟨B, off + k, none⟩ := fun k => by unfold Addr.add; split <;> simp_all
      refine ⟨B, off, rfl, ?_, fun j u hu => ?_⟩
      · rw [List.getElem?_eq_getElem (by omega)] at h0
        have := block_of_cell h0
        rw [hadd] at this
        exact this
      · have hj : j < K := by
          have := (List.getElem?_eq_some_iff.1 hu).1
          rw [hE] at this; exact this
        have h1 := hat j hj
        rw [Go.Deep.add_add, hadd, hq, hu] at h1
        rw [Nat.add_assoc]; exact h1
    refine ⟨some a, n, c, List.ofFn fun i : Fin n => Classical.choose (hget i.1 i.2), rfl, by simp, by omega, fun q hq => ?_, fun i q hq => ?_⟩
    · obtain ⟨i, rfl⟩ := (List.mem_ofFn).1 hq
      exact (Classical.choose_spec (hget i.1 i.2)).1
    · have hin : i < n := by
        have := (List.getElem?_eq_some_iff.1 hq).1
        simpa using this
      rw [List.getElem?_ofFn, dif_pos hin] at hq
      injection hq with hq
      subst hq
      obtain ⟨B, off, e1, e2, e3⟩ := (Classical.choose_spec (hget i hin)).2
      exact ⟨B, off, congrArg some e1, e2, e3⟩
end
end Go.Proofs.Ytekcogoijlbmnaa.Ops
