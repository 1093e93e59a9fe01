/- Cells stored one behind the other, as a block sees it. -/
import Derived.Test.YtekcogoijlbmnaaMem
import Derived.Laws.IdiomCopy
namespace Go.Proofs.Ytekcogoijlbmnaa.Mem
open Go Go.RowKit

def lay (cs : Array Value) : Nat → List Value → Array Value
  | _, [] => cs
  | o, x :: xs => lay (cs.setIfInBounds o x) (o + 1) xs
theorem lay_size : ∀ (xs : List Value) (o : Nat) (cs : Array Value), (lay cs o xs).size = cs.size
  | [], _, _ => rfl
  | x :: xs, o, cs => by rw [lay, lay_size xs]; simp
theorem lay_out : ∀ (xs : List Value) (o : Nat) (cs : Array Value) (j : Nat), j < o ∨ o + xs.length ≤ j → (lay cs o xs)[j]? = cs[j]?
  | [], _, _, _, _ => rfl
  | x :: xs, o, cs, j, h => by
    simp only [List.length_cons] at h
    rw [lay, lay_out xs (o + 1) _ j (by omega), Array.getElem?_setIfInBounds, if_neg (by omega)]
theorem lay_in : ∀ (xs : List Value) (o : Nat) (cs : Array Value) (j : Nat), o + xs.length ≤ cs.size → o ≤ j → j < o + xs.length → (lay cs o xs)[j]? = xs[j - o]?
  | [], _, _, _, _, _, h => by simp at h; omega
  | x :: xs, o, cs, j, h1, h2, h3 => by
    simp only [List.length_cons] at h1 h3
    rw [lay]
    by_cases e : j = o
    · subst e
      rw [lay_out xs (j + 1) _ j (by omega), Array.getElem?_setIfInBounds, if_pos rfl, if_pos (by omega)]
      simp
    · rw [lay_in xs (o + 1) _ j (by simp; omega) (by omega) (by omega), show j - o = j - (o + 1) + 1 from by omega, List.getElem?_cons_succ]
theorem set_cells {b : Nat} {t : TypeId} {fz : Nat × Nat} : ∀ (xs : List Value) (o : Nat) (cs : Array Value) {W : World}, W.heap[b]? = some (.cells cs t fz) → (W.setCells b o xs).heap[b]? = some (.cells (lay cs o xs) t fz)
  | [], _, _, _, h => h
  | x :: xs, o, _, _, h => set_cells xs (o + 1) _ (Mem.row_set h o x)
theorem set_cells_far {b : Nat} : ∀ (xs : List Value) (o : Nat) {W : World} {j : Nat}, j ≠ b → (W.setCells b o xs).heap[j]? = W.heap[j]?
  | [], _, _, _, _ => rfl
  | _ :: xs, o, _, _, h => (set_cells_far xs (o + 1) h).trans (Below.heap_setCell _ _ _ _ h)
theorem set_cells_size {b : Nat} : ∀ (xs : List Value) (o : Nat) {W : World}, (W.setCells b o xs).heap.size = W.heap.size
  | [], _, _ => rfl
  | _ :: xs, o, _ => (set_cells_size xs (o + 1)).trans (by simp [World.setCell])
theorem Only.setCells {F : Nat → Prop} {x : World} {b : Nat} (hb : F b ∨ x.heap.size ≤ b) : ∀ (xs : List Value) (o : Nat) {y : World}, Only F x y → Only F x (y.setCells b o xs)
  | [], _, _, h => h
  | u :: xs, o, _, h => Only.setCells hb xs (o + 1) (h.setCell (p := ⟨b, o, none⟩) hb u)
end Go.Proofs.Ytekcogoijlbmnaa.Mem
