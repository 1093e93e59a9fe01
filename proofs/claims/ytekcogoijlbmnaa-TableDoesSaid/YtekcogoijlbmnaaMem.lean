/- Small words on memory: what was there before stays, over new blocks and stores into blocks of the call's own. -/
import Derived.Below
import Derived.WalkSmall
import Derived.RangeFuncNested
import Derived.Laws.AppendOwn
namespace Go.Proofs.Ytekcogoijlbmnaa.Mem
open Go Go.RowKit
variable {a w : World}
theorem al (h : Below a.heap.size a w) (o : Obj) : Below a.heap.size a (w.alloc o) := h.alloc h.size o
theorem sc (h : Below a.heap.size a w) {p : Addr} (hp : a.heap.size ≤ p.block) (u : Value) : Below a.heap.size a (w.setCell p u) := h.setCell hp u
theorem dn (h : Below a.heap.size a w) (n : Nat) : Below a.heap.size a (w.drewN n) := below_drewN h n
theorem dn' {B : Nat} (h : Below B a w) (n : Nat) : Below B a (w.drewN n) := below_drewN h n
/-- A later stretch of the same call. -/
theorem tr {b : World} (h : Below a.heap.size a w) (h' : Below w.heap.size w b) : Below a.heap.size a b := h.trans (h'.mono h.size)

/-- These blocks hold just this. -/
def Fix (W : World) (bs : List (Nat × Obj)) : Prop := ∀ p ∈ bs, W.heap[p.1]? = some p.2

/-- A block of one cell. -/
abbrev box (b : Nat) (t : TypeId) (v : Value) : Nat × Obj := (b, .cells #[v] t (0, 0))

theorem Fix.nil (W : World) : Fix W [] := fun _ h => by cases h
theorem Fix.cons {W : World} {p : Nat × Obj} {bs : List (Nat × Obj)} (h : W.heap[p.1]? = some p.2) (hs : Fix W bs) : Fix W (p :: bs) := fun q hq => by
  rcases List.mem_cons.1 hq with rfl | hq
  · exact h
  · exact hs q hq
theorem Fix.head {W : World} {p : Nat × Obj} {bs : List (Nat × Obj)} (h : Fix W (p :: bs)) : W.heap[p.1]? = some p.2 := h p (List.mem_cons.2 (.inl rfl))
theorem Fix.tail {W : World} {p : Nat × Obj} {bs : List (Nat × Obj)} (h : Fix W (p :: bs)) : Fix W bs := fun q hq => h q (List.mem_cons.2 (.inr hq))
theorem Fix.lt {W : World} {p : Nat × Obj} {bs : List (Nat × Obj)} (h : Fix W bs) (hp : p ∈ bs) : p.1 < W.heap.size := (Array.getElem?_eq_some_iff.1 (h p hp)).1
theorem Fix.same {W W' : World} {bs : List (Nat × Obj)} (h : Fix W bs) (hs : ∀ p ∈ bs, W'.heap[p.1]? = W.heap[p.1]?) : Fix W' bs := fun p hp => (hs p hp).trans (h p hp)
theorem Fix.alloc {W : World} {bs : List (Nat × Obj)} (h : Fix W bs) (o : Obj) : Fix (W.alloc o) bs := h.same fun _ hp => Below.heap_alloc W o _ (h.lt hp)
theorem Fix.drew {W : World} {bs : List (Nat × Obj)} (h : Fix W bs) : Fix W.drew bs := h
theorem Fix.drewN {W : World} {bs : List (Nat × Obj)} (h : Fix W bs) (n : Nat) : Fix (W.drewN n) bs := h
/-- Later, where all that lay in the world ahead stays. -/
theorem Fix.below {W W' : World} {B : Nat} {bs : List (Nat × Obj)} (h : Fix W bs) (hb : Below B W W') (hB : W.heap.size ≤ B) : Fix W' bs := h.same fun _ hp => hb.block _ (Nat.lt_of_lt_of_le (h.lt hp) hB)
theorem Fix.far {W : World} {bs : List (Nat × Obj)} (h : Fix W bs) {a : Addr} (u : Value) (ha : ∀ p ∈ bs, p.1 ≠ a.block) : Fix (W.setCell a u) bs := h.same fun p hp => Below.heap_setCell W a u p.1 (ha p hp)
theorem Fix.putObj {W : World} {bs : List (Nat × Obj)} (h : Fix W bs) {l : Nat} (o : Obj) (ha : ∀ p ∈ bs, p.1 ≠ l) : Fix (W.putObj l o) bs := h.same fun p hp => World.putObj_heap_other (ha p hp)

theorem own_fix {β : Type} (B : Nat) (f : β → List (Nat × Obj)) (hf : ∀ s, ∀ p ∈ f s, p.2.isCells = true) : OwnFrom B (fun s W => Fix W (f s)) := fun s W W' row hs hg hr p hp => by
  have h := hs p hp
  refine (hg.block p.1 (Array.getElem?_eq_some_iff.1 h).1 (fun e => ?_)).trans h
  obtain ⟨_, o, ho, hc⟩ := hr p.1 e.symm
  rw [h] at ho
  injection ho with ho
  rw [← ho, hf s p hp] at hc
  cases hc

theorem box_cell {W : World} {b : Nat} {t : TypeId} {v : Value} (h : W.heap[b]? = some (.cells #[v] t (0, 0))) : W.cell? ⟨b, 0, none⟩ = some v := by simp [World.cell?, h]
theorem box_free {W : World} {b : Nat} {t : TypeId} {v : Value} (h : W.heap[b]? = some (.cells #[v] t (0, 0))) : W.frozen? ⟨b, 0, none⟩ = false := by simp [World.frozen?, h]
theorem box_set {W : World} {b : Nat} {t : TypeId} {v : Value} (h : W.heap[b]? = some (.cells #[v] t (0, 0))) (u : Value) : (W.setCell ⟨b, 0, none⟩ u).heap[b]? = some (.cells #[u] t (0, 0)) := by
  simp [World.setCell, Array.getElem?_modify, h]
theorem row_cell {W : World} {b : Nat} {t : TypeId} {cs : Array Value} {fz : Nat × Nat} (h : W.heap[b]? = some (.cells cs t fz)) (i : Nat) : W.cell? ⟨b, i, none⟩ = cs[i]? := by simp [World.cell?, h]
theorem row_free {W : World} {b : Nat} {t : TypeId} {cs : Array Value} (h : W.heap[b]? = some (.cells cs t (0, 0))) (i : Nat) : W.frozen? ⟨b, i, none⟩ = false := by simp [World.frozen?, h]
theorem row_set {W : World} {b : Nat} {t : TypeId} {cs : Array Value} {fz : Nat × Nat} (h : W.heap[b]? = some (.cells cs t fz)) (i : Nat) (u : Value) : (W.setCell ⟨b, i, none⟩ u).heap[b]? = some (.cells (cs.setIfInBounds i u) t fz) := by
  simp [World.setCell, Array.getElem?_modify, h]
theorem new_block (w : World) (o : Obj) : (w.alloc o).heap[w.heap.size]? = some o := World.alloc_heap_new w o
theorem new_block2 (w : World) (o o' : Obj) : ((w.alloc o).alloc o').heap[w.heap.size + 1]? = some o' := by
  have := new_block (w.alloc o) o'
  rwa [World.size_alloc] at this
theorem new_later {w : World} {b : Nat} {o : Obj} (h : w.heap[b]? = some o) (o' : Obj) : (w.alloc o').heap[b]? = some o := (Below.heap_alloc w o' b (Array.getElem?_eq_some_iff.1 h).1).trans h

theorem own_low {β : Type} {S D : Nat} (o : Obj) (hD : D < S) : OwnFrom S (fun (_ : β) W => W.heap[D]? = some o) := fun _ W _ row hs hg hr =>
  (hg.block D (Array.getElem?_eq_some_iff.1 hs).1 (fun e => by have := (hr D e.symm).1; omega)).trans hs
/-- The cells of a row that the call owns. -/
theorem row_block {W : World} {base : Nat} {e : TypeId} {size : Nat} {v : Value} {k : Nat} {xs : List Value} (h : W.ownsRow base e size v (k + 1) xs) :
    ∃ g cap cur, v = .slice (some ⟨g, 0, none⟩) (k + 1) cap ∧ base ≤ g ∧ W.heap[g]? = some (.cells cur e (0, 0)) ∧ k + 1 ≤ cap ∧ cap ≤ maxLen ∧ ∀ (j : Nat) (u : Value), xs[j]? = some u → cur[j]? = some u := by
  rcases h.2 with ⟨_, h⟩ | ⟨g, cap, cur, h1, h2, h3, h4, h5, _, h7⟩
  · omega
  · refine ⟨g, cap, cur, h1, h2, h3, h4, h5, fun j u hj => ?_⟩
    rw [← h7, List.getElem?_take] at hj
    split at hj
    · rwa [Array.getElem?_toList] at hj
    · cases hj
theorem own_size {β : Type} (B S : Nat) : OwnFrom B (fun (_ : β) W => S ≤ W.heap.size) := fun _ _ _ _ hs hg _ => Nat.le_trans hs hg.size
theorem row_less {W : World} {base base' : Nat} {e : TypeId} {size : Nat} {v : Value} {k : Nat} {xs : List Value} (h : W.ownsRow base e size v k xs) (hb : base' ≤ base) : W.ownsRow base' e size v k xs := by
  refine ⟨h.1, ?_⟩
  rcases h.2 with h | ⟨g, cap, cur, h1, h2, h3⟩
  · exact .inl h
  · exact .inr ⟨g, cap, cur, h1, Nat.le_trans hb h2, h3⟩
/-- Behind an append onto a row of the call's own, and the store of the slice into its box, a block below the row's base that is not the box lies as it lay. -/
theorem append_far {W w1 : World} {tmp : Obj} {base B : Nat} {e : TypeId} {size : Nat} {v v' : Value} {k : Nat} {xs : List Value} (hrow : W.ownsRow base e size v k xs) (hgrow : (W.alloc tmp).grownBy w1 v.ownBlock)
    {j : Nat} (h1 : j < base) (h2 : j < W.heap.size) (h3 : j ≠ B) : (w1.setCell ⟨B, 0, none⟩ v').heap[j]? = W.heap[j]? := by
  refine (Below.heap_setCell _ _ _ _ h3).trans ((hgrow.block j (by simp; omega) (fun e' => ?_)).trans (Below.heap_alloc W tmp j h2))
  rcases hrow.2 with ⟨rfl, _⟩ | ⟨g, cap, cur, rfl, hb, _, _⟩
  · simp [Value.ownBlock] at e'
  · have : j = g := by simpa [Value.ownBlock] using e'
    omega

/-! ### only the blocks of F, and new ones, have turned -/
structure Only (F : Nat → Prop) (w w' : World) : Prop where
  os : w'.os = w.os
  tape : w'.tape = w.tape
  output : w'.output = w.output
  size : w.heap.size ≤ w'.heap.size
  same : ∀ k, k < w.heap.size → ¬ F k → w'.heap[k]? = w.heap[k]?
/-- A footprint grows by new blocks alone. -/
def Grows (w : World) (F F' : Nat → Prop) : Prop := ∀ k, F' k → F k ∨ w.heap.size ≤ k

section
variable {F F' F'' : Nat → Prop} {x y z : World}
theorem Only.refl (F : Nat → Prop) (w : World) : Only F w w := ⟨rfl, rfl, rfl, Nat.le_refl _, fun _ _ _ => rfl⟩
theorem Only.trans (h : Only F x y) (h' : Only F' y z) (g : Grows x F F') : Only F x z :=
  ⟨h'.os.trans h.os, h'.tape.trans h.tape, h'.output.trans h.output, Nat.le_trans h.size h'.size, fun k hk hF =>
    (h'.same k (Nat.lt_of_lt_of_le hk h.size) (fun hF' => (g k hF').elim hF (fun e => by omega))).trans (h.same k hk hF)⟩
theorem Only.mono (h : Only F x y) (hF : ∀ k, F k → F' k) : Only F' x y := ⟨h.os, h.tape, h.output, h.size, fun k hk hn => h.same k hk (fun e => hn (hF k e))⟩
theorem Only.alloc (h : Only F x y) (o : Obj) : Only F x (y.alloc o) :=
  ⟨h.os, h.tape, h.output, Nat.le_trans h.size (by simp), fun k hk hF => (Below.heap_alloc y o k (Nat.lt_of_lt_of_le hk h.size)).trans (h.same k hk hF)⟩
theorem Only.setCell (h : Only F x y) {p : Addr} (hp : F p.block ∨ x.heap.size ≤ p.block) (u : Value) : Only F x (y.setCell p u) :=
  ⟨h.os, h.tape, h.output, by simpa [World.setCell] using h.size, fun k hk hF => (Below.heap_setCell y p u k (fun e => by subst e; exact hp.elim hF (fun e => by omega))).trans (h.same k hk hF)⟩
theorem Only.putObj (h : Only F x y) {l : Nat} (hl : F l ∨ x.heap.size ≤ l) (o : Obj) : Only F x (y.putObj l o) :=
  ⟨h.os, h.tape, h.output, by simpa using h.size, fun k hk hF => (World.putObj_heap_other (fun e => by subst e; exact hl.elim hF (fun e => by omega))).trans (h.same k hk hF)⟩
theorem Only.drew (h : Only F x y) : Only F x y.drew := ⟨h.os, h.tape, h.output, h.size, h.same⟩
theorem Only.drewN (h : Only F x y) (n : Nat) : Only F x (y.drewN n) := by
  have e : (y.drewN n).heap = y.heap ∧ (y.drewN n).os = y.os ∧ (y.drewN n).tape = y.tape ∧ (y.drewN n).output = y.output := ⟨rfl, rfl, rfl, rfl⟩
  exact ⟨e.2.1.trans h.os, e.2.2.1.trans h.tape, e.2.2.2.trans h.output, by rw [e.1]; exact h.size, fun k hk hF => by rw [e.1]; exact h.same k hk hF⟩
theorem Only.grown (h : Only F x y) {row : Option Nat} (hg : y.grownBy z row) (hr : ∀ g, row = some g → F g ∨ x.heap.size ≤ g) : Only F x z :=
  ⟨hg.os.trans h.os, hg.tape.trans h.tape, hg.output.trans h.output, Nat.le_trans h.size hg.size, fun k hk hF =>
    (hg.block k (Nat.lt_of_lt_of_le hk h.size) (fun e => (hr k e.symm).elim hF (fun e => by omega))).trans (h.same k hk hF)⟩
theorem Only.of_below {B : Nat} (h : Below B x y) (hF : ∀ k, B ≤ k → k < x.heap.size → F k) : Only F x y :=
  ⟨h.os, h.tape, h.output, h.size, fun k hk hn => h.block k (by rcases Nat.lt_or_ge k B with h | h; exact h; exact absurd (hF k h hk) hn)⟩
/-- Where F lies at or beyond B: below B nothing has turned. -/
theorem Only.below (h : Only F x y) {B : Nat} (hB : B ≤ x.heap.size) (hF : ∀ k, F k → B ≤ k) : Below B x y :=
  ⟨h.os, h.tape, h.output, h.size, fun k hk => h.same k (by omega) (fun e => by have := hF k e; omega)⟩
theorem Grows.refl (w : World) (F : Nat → Prop) : Grows w F F := fun _ h => .inl h
theorem Grows.trans (h : Grows x F F') (hs : x.heap.size ≤ y.heap.size) (h' : Grows y F' F'') : Grows x F F'' := fun k hk => (h' k hk).elim (h k) (fun e => .inr (by omega))
theorem Only.fix (h : Only F x y) {bs : List (Nat × Obj)} (hf : Fix x bs) (hb : ∀ p ∈ bs, ¬ F p.1) : Fix y bs := hf.same fun p hp => h.same p.1 (hf.lt hp) (hb p hp)
end
end Go.Proofs.Ytekcogoijlbmnaa.Mem
