/- A list of error numbers that a law keeps beside the slab and a list of chunks. -/
import Derived.Test.YtohnnlimkmofbaaChunks
namespace Go.Proofs.Ytohnnlimkmofbaa.Slab
open Go Go.RowKit Go.Proofs.Ytohnnlimkmofbaa.Mem

def cellsE (xs : List Int) : List Value := xs.map (Value.int .i64)
structure RowE (W0 w : World) (F : Nat → Prop) (v : Value) (xs : List Int) : Prop where
  own : w.ownsRow W0.heap.size 23 1 v xs.length (cellsE xs)
  off : ∀ g, v.ownBlock = some g → ¬ F g
theorem RowE.nil (W0 w : World) (F : Nat → Prop) : RowE W0 w F (.slice none 0 0) [] := ⟨World.ownsRow_nil _ _ _ _, fun g e => by cases e⟩
section
variable {W0 w w' : World} {F F' : Nat → Prop} {v : Value} {xs : List Int}
theorem RowE.only (h : RowE W0 w F v xs) (ho : Only F w w') (hg : Grows w F F') : RowE W0 w' F' v xs :=
  ⟨row_same h.own fun g e => ho.same g (ownsRow_lt h.own g e).2 (h.off g e), fun g e hF => (hg g hF).elim (h.off g e) (fun e' => by have := (ownsRow_lt h.own g e).2; omega)⟩
theorem RowE.step (h : RowE W0 w F v xs) (hb : Below w.heap.size w w') : RowE W0 w' F v xs :=
  ⟨row_same h.own fun g e => hb.block g (ownsRow_lt h.own g e).2, h.off⟩
theorem RowE.shape (h : RowE W0 w F v xs) : ∃ a cap, v = .slice a xs.length cap := by
  rcases h.own.2 with ⟨e1, e2⟩ | ⟨g, cap, cur, e1, _⟩
  · exact ⟨none, 0, by rw [e1, e2]⟩
  · exact ⟨_, _, e1⟩
theorem RowE.get (h : RowE W0 w F v xs) {k : Nat} {c : Int} (hk : xs[k]? = some c) :
    ∃ g cap, v = .slice (some ⟨g, 0, none⟩) xs.length cap ∧ g < w.heap.size ∧ w.cell? ⟨g, k, none⟩ = some (.int .i64 c) := by
  have hkl := (List.getElem?_eq_some_iff.1 hk).1
  obtain ⟨n, hn⟩ : ∃ n, xs.length = n + 1 := ⟨xs.length - 1, by omega⟩
  have ho := h.own
  rw [hn] at ho
  obtain ⟨g, cap, cur, e1, _, e2, _, _, e3⟩ := Mem.row_block ho
  exact ⟨g, cap, by rw [hn]; exact e1, (Array.getElem?_eq_some_iff.1 e2).1, (Mem.row_cell e2 _).trans (e3 _ _ (by simp [cellsE, hk]))⟩
theorem RowE.appended {N b : Nat} {s : St} {c : Int} {g cap : Nat} (h : RowE W0 w F v xs) (hR : Run W0 w N b F s) (hown : w'.ownsRow W0.heap.size 23 1 (.slice (some ⟨g, 0, none⟩) (xs.length + 1) cap) (xs.length + 1) (cellsE xs ++ [.int .i64 c]))
    (hat : v.ownBlock = some g ∨ w.heap.size ≤ g) : RowE W0 w' F (.slice (some ⟨g, 0, none⟩) (xs.length + 1) cap) (xs ++ [c]) :=
  ⟨by rw [List.length_append, show cellsE (xs ++ [c]) = cellsE xs ++ [.int .i64 c] from by simp [cellsE]]; exact hown, fun g' e hF => by
    have : g = g' := by simpa [Value.ownBlock] using e
    subst this
    exact hat.elim (fun e1 => h.off g e1 hF) (fun e1 => by have := hR.lt g hF; omega)⟩
/-- Rows of two types are two blocks. -/
theorem rows_two {base base' : Nat} {e e' : TypeId} {size size' n n' : Nat} {v v' : Value} {xs ys : List Value} (h : w.ownsRow base e size v n xs) (h' : w.ownsRow base' e' size' v' n' ys) (hne : e ≠ e') : ∀ g, v.ownBlock = some g → v'.ownBlock ≠ some g := fun g e1 e2 => by
  rcases h.2 with ⟨q, _⟩ | ⟨g1, cap, cur, q, _, b1, _⟩
  · rw [q] at e1; cases e1
  rcases h'.2 with ⟨q', _⟩ | ⟨g2, cap', cur', q', _, b2, _⟩
  · rw [q'] at e2; cases e2
  rw [q] at e1; rw [q'] at e2
  have h1 : g1 = g := by simpa [Value.ownBlock] using e1
  have h2 : g2 = g := by simpa [Value.ownBlock] using e2
  subst h1; subst h2
  rw [b1] at b2
  injection b2 with b2
  injection b2 with _ b2
  exact hne b2
theorem RowE.grown {row : Option Nat} (h : RowE W0 w F v xs) (hg : w.grownBy w' row) (hr : ∀ g, v.ownBlock = some g → row ≠ some g) : RowE W0 w' F v xs :=
  ⟨row_same h.own fun g e => hg.block g (ownsRow_lt h.own g e).2 (Ne.symm (hr g e)), h.off⟩
theorem Row.grown {ys : List (Int × Int)} {row : Option Nat} (h : Row W0 w F v ys) (hg : w.grownBy w' row) (hr : ∀ g, v.ownBlock = some g → row ≠ some g) : Row W0 w' F v ys :=
  ⟨row_same h.own fun g e => hg.block g (ownsRow_lt h.own g e).2 (Ne.symm (hr g e)), h.off⟩
end
theorem infoErrno : (Try.prog.info? 23).map (fun i => (i.zero, i.size, i.bytes)) = some (some (.int .i64 0), 1, 8) := by kernel_rfl
end Go.Proofs.Ytohnnlimkmofbaa.Slab
