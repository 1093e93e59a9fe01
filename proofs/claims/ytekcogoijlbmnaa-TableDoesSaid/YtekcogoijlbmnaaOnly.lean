/- Only, in the words of a loop over a function: invariants, what stays. -/
import Derived.Test.YtekcogoijlbmnaaMem
import Derived.Test.YtekcogoijlbmnaaRange
namespace Go.Proofs.Ytekcogoijlbmnaa.Mem
open Go Go.RowKit Go.Proofs.Ytekcogoijlbmnaa.Rng
theorem own_only {β : Type} {F : Nat → Prop} {w : World} {S : Nat} (hS : w.heap.size ≤ S) : OwnFrom S (fun (_ : β) W => Only F w W) := fun _ _ _ _ hs hg hr =>
  hs.grown hg fun g e => .inr (by have := (hr g e).1; omega)
theorem Only.keepsFrom {F : Nat → Prop} {w w' : World} (h : Only F w w') {B : Nat} (hF : ∀ k, F k → k < B) : KeepsFrom B w w' :=
  ⟨h.size, fun k _ hB hk _ => (h.same k (Array.getElem?_eq_some_iff.1 hk).1 (fun e => by have := hF k e; omega)).trans hk⟩
theorem Only.keep {F K : Nat → Prop} {w w' : World} (h : Only F w w') (hK : ∀ k, K k → k < w.heap.size ∧ ¬ F k) : Keep K w w' := fun k hk => h.same k (hK k hk).1 (hK k hk).2
end Go.Proofs.Ytekcogoijlbmnaa.Mem
