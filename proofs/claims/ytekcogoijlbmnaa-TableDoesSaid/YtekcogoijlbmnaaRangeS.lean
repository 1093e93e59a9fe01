/- 'for .. := range f' over an iterator that lays memory of its own ahead of the first round: the blocks S; the rounds leave them alone. -/
import Derived.Test.YtekcogoijlbmnaaRange
namespace Go.Proofs.Ytekcogoijlbmnaa.Rng
open Go Go.RowKit
variable {P : Program}

/-- The iterator's contract: as SeqI, but that it may lay blocks of its own first, which no round turns. -/
def SeqS {α : Type} (P : Program) (gf : Nat) (lb : Array Value) (encs : α → Array Value) (K : Nat → Prop) (full : List α) (w : World) : Prop :=
  ∀ (l : Nat) (J Jx : (Nat → Prop) → Nat → World → Prop) (W : World), Below w.heap.size w W → (∀ S, OwnFrom W.heap.size (J S)) → (∀ S, OwnFrom W.heap.size (Jx S)) →
    (∀ S k x W1, J S k W1 → full[k]? = some x → YieldAt Fence.wide 9 P l (encs x) W1 fun e W' =>
      (e = .returned (.bool true) ∧ J S (k + 1) W' ∧ Keep (fun j => K j ∨ S j) W1 W') ∨ (e = .returned (.bool false) ∧ Jx S (k + 1) W')) →
    (∀ S W2, Below W.heap.size W W2 → (∀ j, S j → W.heap.size ≤ j ∧ j < W2.heap.size) → J S 0 W2) →
    CallsIn Fence.wide 9 P gf (#[.func (.yield l) #[] #[]] ++ lb) W fun e W' => (∃ v, e = .returned v) ∧ ∃ S, (J S full.length W' ∨ ∃ k, k ≤ full.length ∧ Jx S k W')

section
variable {α : Type} {g : Operand} {ps : Array Tmp} {assign body : Code} {Q : Exit → Act → World → Prop} {a : Act} {w w0 : World} {n gf : Nat} {lb : Array Value}
  {encs : α → Array Value} {K : Nat → Prop} {full : List α}

/-- **THE LAW, of a loop that stands in no other such loop.** -/
theorem outerS (hg : a.eval g = .func (.func gf) #[] lb) (eg : ∀ args w, (callFunc gf args).run P w = .ok (.enter gf args) w)
    (hseq : SeqS P gf lb encs K full w0) (hb0 : Below w0.heap.size w0 w) (hK : ∀ k, K k → k < w.heap.size) (hps : ∀ x, (encs x).size = ps.size)
    (I : (Nat → Prop) → Nat → World → Prop) (Ix : (Nat → Prop) → Code → World → Prop) (hI : ∀ S, OwnFrom w.heap.size (I S)) (hIx : ∀ S, OwnFrom w.heap.size (Ix S)) (h0 : ∀ S W, Below w.heap.size w W → (∀ j, S j → w.heap.size ≤ j ∧ j < W.heap.size) → I S 0 W) (a₁ : α → Act)
    (hassign : ∀ (l : Nat) (x : α) (W : World) (Kc : Act → World → Prop), Kc (a₁ x) W →
      assign.wpIn (Fence.wide.inRound l) 9 P (Exit.then Kc (fun _ _ _ => False)) { tmps := (ps.zip (encs x)).foldl (fun t (p, v) => t.setIfInBounds p v) a.tmps, defers := [] } W)
    (hbody : ∀ (S : Nat → Prop) (l k : Nat) (x : α) (W : World), w.heap.size ≤ l → (∃ r, W.heap[l]? = some (.loop r)) → I S k W → full[k]? = some x → body.wpIn (Fence.wide.inRound l) 9 P (rpost w.heap.size (fun j => K j ∨ S j) (I S (k + 1)) (Ix S) W) (a₁ x) W)
    (hdone : ∀ (S : Nat → Prop) (D : Nat) (W : World), w.heap.size ≤ D → I S full.length W → W.heap[D]? = some (.deferred (some [])) → Q .normal { a with defers := { target := .collected D, args := #[] } :: a.defers } W)
    (hstop : ∀ (S : Nat → Prop) (D : Nat) (c : Code) (W : World), w.heap.size ≤ D → Ix S c W → W.heap[D]? = some (.deferred (some [])) → c.wpIn Fence.wide n P Q { a with defers := { target := .collected D, args := #[] } :: a.defers } W) :
    (Code.rangeFunc g ps assign body).wpIn Fence.wide n P Q a w := by
  refine wpIn_rangeFunc ?_
  intro fn hfn
  obtain ⟨rec, hrec⟩ : ∃ rec : LoopState → Option Code → Loop, ∀ st pe, rec st pe = { state := st, pending := pe, fn, tmps := a.tmps, params := ps, assign, body, defers := w.heap.size } := ⟨_, fun _ _ => rfl⟩
  obtain ⟨W1, hW1⟩ : ∃ W1, (w.alloc (.deferred (some []))).alloc (.loop (rec .ready none)) = W1 := ⟨_, rfl⟩
  have hL1 : W1.heap[w.heap.size + 1]? = some (.loop (rec .ready none)) := by
    rw [← hW1]; have := World.alloc_heap_new (w.alloc (.deferred (some []))) (.loop (rec .ready none)); rwa [World.size_alloc] at this
  have hK1 : W1.heap[w.heap.size]? = some (.deferred (some [])) := by
    rw [← hW1]; exact (Below.heap_alloc _ _ _ (by simp)).trans (World.alloc_heap_new w _)
  have hs1 : W1.heap.size = w.heap.size + 2 := by rw [← hW1]; simp
  have hbw1 : Below w.heap.size w W1 := by rw [← hW1]; exact ((Below.refl _ w).alloc (Nat.le_refl _) _).alloc (by simp) _
  have hb1 : Below w0.heap.size w0 W1 := by
    rw [← hW1]; exact hb0.trans ((((Below.refl _ w).alloc (Nat.le_refl _) _).alloc (by simp) _).mono hb0.size)
  refine ⟨w.heap.size + 1, [{ target := .collected w.heap.size, args := #[] }], W1, { target := .fn (.func gf) lb, args := #[.func (.yield (w.heap.size + 1)) #[] #[]] }, W1, gf,
    #[.func (.yield (w.heap.size + 1)) #[] #[]] ++ lb, W1, ?_, ?_, ?_, ?_, ?_, ?_⟩
  · rw [← hW1, hrec]; exact run_enterLoop_outer _ _ _ _ _
  · simp only [resolve, hg]
    simp [go_sem]
  · intro _ _; trivial
  · simp [invoke, go_sem, eg]
  · intro h; simp [Fence.wide] at h
  · have hnw : ∀ {A : World} {row : Option Nat}, (∀ r, row = some r → W1.heap.size ≤ r ∧ ∃ o : Obj, A.heap[r]? = some o ∧ o.isCells = false) → (∀ r, row = some r → w.heap.size ≤ r ∧ ∃ o : Obj, A.heap[r]? = some o ∧ o.isCells = false) :=
      fun hr r e => ⟨by have := (hr r e).1; omega, (hr r e).2⟩
    refine callsIn_wide.2 (callsIn_wide.1 ((hseq (w.heap.size + 1)
      (fun S k W => I S k W ∧ W.heap[w.heap.size + 1]? = some (.loop (rec .ready none)) ∧ W.heap[w.heap.size]? = some (.deferred (some [])) ∧ ∀ j, S j → w.heap.size + 2 ≤ j)
      (fun S _ W => ∃ c, Ix S c W ∧ W.heap[w.heap.size + 1]? = some (.loop (rec .done (some c))) ∧ W.heap[w.heap.size]? = some (.deferred (some [])))
      W1 hb1
      (fun S s A B row hs hg' hr => ⟨hI S s A B row hs.1 hg' (hnw hr), kept_obj hg' hr (by omega) hs.2.1, kept_obj hg' hr (by omega) hs.2.2.1, hs.2.2.2⟩)
      (fun S s A B row hs hg' hr => by
        obtain ⟨c, hc, hl, hk⟩ := hs
        exact ⟨c, hIx S c A B row hc hg' (hnw hr), kept_obj hg' hr (by omega) hl, kept_obj hg' hr (by omega) hk⟩)
      ?_ ?_).mono ?_))
    · rintro S k x W ⟨hi, hl, hk, hSl⟩ hx
      have hkB : ∀ (W' : World), (∃ Wb Wc, KeepsFrom w.heap.size Wb Wc ∧ (∀ j, j ≠ w.heap.size + 1 → Wb.heap[j]? = W.heap[j]?) ∧ (∀ j, j ≠ w.heap.size + 1 → W'.heap[j]? = Wc.heap[j]?)) → W'.heap[w.heap.size]? = some (.deferred (some [])) := by
        rintro W' ⟨Wb, Wc, h1, h2, h3⟩
        exact (h3 _ (by omega)).trans (h1.same _ _ (Nat.le_refl _) ((h2 _ (by omega)).trans hk) rfl)
      refine (round_of (B := w.heap.size) hrec (hI S) (hIx S) (by omega) (fun h => h.elim (fun h => by have := hK _ h; omega) (fun h => by have := hSl _ h; omega)) (hps x) (a₁ x) hi hl (hassign _ x) (fun W2 hr2 hi2 => hbody S _ k x W2 (by omega) hr2 hi2 hx)).mono ?_
      rintro e W' (⟨rfl, ⟨h1, h2, h3⟩, h4⟩ | ⟨rfl, c, h1, h2, h3⟩)
      · exact .inl ⟨rfl, ⟨h1, h2, hkB _ h3, hSl⟩, h4⟩
      · exact .inr ⟨rfl, c, h1, h2, hkB _ h3⟩
    · intro S W2 hb2 hS2
      exact ⟨h0 S W2 (hbw1.trans (hb2.mono (by omega))) (fun j hj => ⟨by have := (hS2 j hj).1; omega, (hS2 j hj).2⟩), (hb2.block _ (by omega)).trans hL1, (hb2.block _ (by omega)).trans hK1, fun j hj => by have := (hS2 j hj).1; omega⟩
    · rintro e W2 ⟨⟨v, rfl⟩, S, (⟨hi, hl, hk, hSl⟩ | ⟨k, hkl, c, hi, hl, hk⟩)⟩
      · exact ⟨none, _, by have := run_endLoop (P := P) hl (by rw [hrec]; simp); rw [hrec] at this; exact this, hdone S _ _ (Nat.le_refl _) ((hI S).putObj _ hi (by omega) hl rfl) ((World.putObj_heap_other (by omega)).trans hk)⟩
      · exact ⟨some c, _, by have := run_endLoop (P := P) hl (by rw [hrec]; simp); rw [hrec] at this; exact this, hstop S _ c _ (Nat.le_refl _) ((hIx S).putObj _ hi (by omega) hl rfl) ((World.putObj_heap_other (by omega)).trans hk)⟩

/-- **THE LAW, of a loop that stands in the body of another such loop.** -/
theorem innerS {l₀ : Nat} {r₀ : Loop} (hl₀ : w.heap[l₀]? = some (.loop r₀)) (hg : a.eval g = .func (.func gf) #[] lb) (eg : ∀ args w, (callFunc gf args).run P w = .ok (.enter gf args) w)
    (hseq : SeqS P gf lb encs K full w0) (hb0 : Below w0.heap.size w0 w) (hK : ∀ k, K k → k < w.heap.size) (hps : ∀ x, (encs x).size = ps.size)
    (I : (Nat → Prop) → Nat → World → Prop) (Ix : (Nat → Prop) → Code → World → Prop) (hI : ∀ S, OwnFrom w.heap.size (I S)) (hIx : ∀ S, OwnFrom w.heap.size (Ix S)) (h0 : ∀ S W, Below w.heap.size w W → (∀ j, S j → w.heap.size ≤ j ∧ j < W.heap.size) → I S 0 W) (a₁ : α → Act)
    (hassign : ∀ (l : Nat) (x : α) (W : World) (Kc : Act → World → Prop), Kc (a₁ x) W →
      assign.wpIn (Fence.wide.inRound l) 9 P (Exit.then Kc (fun _ _ _ => False)) { tmps := (ps.zip (encs x)).foldl (fun t (p, v) => t.setIfInBounds p v) a.tmps, defers := [] } W)
    (hbody : ∀ (S : Nat → Prop) (l k : Nat) (x : α) (W : World), w.heap.size ≤ l → (∃ r, W.heap[l]? = some (.loop r)) → I S k W → full[k]? = some x → body.wpIn (Fence.wide.inRound l) 9 P (rpost w.heap.size (fun j => K j ∨ S j) (I S (k + 1)) (Ix S) W) (a₁ x) W)
    (hdone : ∀ (S : Nat → Prop) (W : World), I S full.length W → Q .normal a W)
    (hstop : ∀ (S : Nat → Prop) (c : Code) (W : World), Ix S c W → c.wpIn (Fence.wide.inRound l₀) n P Q a W) :
    (Code.rangeFunc g ps assign body).wpIn (Fence.wide.inRound l₀) n P Q a w := by
  refine wpIn_rangeFunc ?_
  intro fn hfn
  obtain ⟨rec, hrec⟩ : ∃ rec : LoopState → Option Code → Loop, ∀ st pe, rec st pe = { state := st, pending := pe, fn, tmps := a.tmps, params := ps, assign, body, defers := r₀.defers } := ⟨_, fun _ _ => rfl⟩
  obtain ⟨W1, hW1⟩ : ∃ W1, w.alloc (.loop (rec .ready none)) = W1 := ⟨_, rfl⟩
  have hL1 : W1.heap[w.heap.size]? = some (.loop (rec .ready none)) := by rw [← hW1]; exact World.alloc_heap_new w _
  have hs1 : W1.heap.size = w.heap.size + 1 := by rw [← hW1]; simp
  have hbw1 : Below w.heap.size w W1 := by rw [← hW1]; exact (Below.refl _ w).alloc (Nat.le_refl _) _
  have hb1 : Below w0.heap.size w0 W1 := by
    rw [← hW1]; exact hb0.trans (((Below.refl _ w).alloc (Nat.le_refl _) _).mono hb0.size)
  refine ⟨w.heap.size, [], W1, { target := .fn (.func gf) lb, args := #[.func (.yield w.heap.size) #[] #[]] }, W1, gf,
    #[.func (.yield w.heap.size) #[] #[]] ++ lb, W1, ?_, ?_, ?_, ?_, ?_, ?_⟩
  · rw [← hW1, hrec]; exact run_enterLoop_inner hl₀ _ _ _ _ _
  · simp only [resolve, hg]
    simp [go_sem]
  · intro _ _; trivial
  · simp [invoke, go_sem, eg]
  · intro h; simp [Fence.wide] at h
  · have hnw : ∀ {A : World} {row : Option Nat}, (∀ r, row = some r → W1.heap.size ≤ r ∧ ∃ o : Obj, A.heap[r]? = some o ∧ o.isCells = false) → (∀ r, row = some r → w.heap.size ≤ r ∧ ∃ o : Obj, A.heap[r]? = some o ∧ o.isCells = false) :=
      fun hr r e => ⟨by have := (hr r e).1; omega, (hr r e).2⟩
    have main : Calls P gf (#[.func (.yield w.heap.size) #[] #[]] ++ lb) W1 (rangePost (Fence.wide.inRound l₀) n P w.heap.size Q { a with defers := [] ++ a.defers }) := by
      refine callsIn_wide.1 ((hseq w.heap.size
        (fun S k W => I S k W ∧ W.heap[w.heap.size]? = some (.loop (rec .ready none)) ∧ ∀ j, S j → w.heap.size + 1 ≤ j)
        (fun S _ W => ∃ c, Ix S c W ∧ W.heap[w.heap.size]? = some (.loop (rec .done (some c))))
        W1 hb1
        (fun S s A B row hs hg' hr => ⟨hI S s A B row hs.1 hg' (hnw hr), kept_obj hg' hr (by omega) hs.2.1, hs.2.2⟩)
        (fun S s A B row hs hg' hr => by
          obtain ⟨c, hc, hl⟩ := hs
          exact ⟨c, hIx S c A B row hc hg' (hnw hr), kept_obj hg' hr (by omega) hl⟩)
        ?_ ?_).mono ?_)
      · rintro S k x W ⟨hi, hl, hSl⟩ hx
        refine (round_of (B := w.heap.size) hrec (hI S) (hIx S) (Nat.le_refl _) (fun h => h.elim (fun h => by have := hK _ h; omega) (fun h => by have := hSl _ h; omega)) (hps x) (a₁ x) hi hl (hassign _ x) (fun W2 hr2 hi2 => hbody S _ k x W2 (Nat.le_refl _) hr2 hi2 hx)).mono ?_
        rintro e W' (⟨rfl, ⟨h1, h2, h3⟩, h4⟩ | ⟨rfl, c, h1, h2, h3⟩)
        · exact .inl ⟨rfl, ⟨h1, h2, hSl⟩, h4⟩
        · exact .inr ⟨rfl, c, h1, h2⟩
      · intro S W2 hb2 hS2
        exact ⟨h0 S W2 (hbw1.trans (hb2.mono (by omega))) (fun j hj => ⟨by have := (hS2 j hj).1; omega, (hS2 j hj).2⟩), (hb2.block _ (by omega)).trans hL1, fun j hj => by have := (hS2 j hj).1; omega⟩
      · rintro e W2 ⟨⟨v, rfl⟩, S, (⟨hi, hl, hSl⟩ | ⟨k, hkl, c, hi, hl⟩)⟩
        · exact ⟨none, _, by have := run_endLoop (P := P) hl (by rw [hrec]; simp); rw [hrec] at this; exact this, hdone S _ ((hI S).putObj _ hi (Nat.le_refl _) hl rfl)⟩
        · exact ⟨some c, _, by have := run_endLoop (P := P) hl (by rw [hrec]; simp); rw [hrec] at this; exact this, hstop S c _ ((hIx S).putObj _ hi (Nat.le_refl _) hl rfl)⟩
    exact CallsIn.inRound (F := Fence.wide) l₀ (callsIn_wide.2 main)
end
end Go.Proofs.Ytekcogoijlbmnaa.Rng
