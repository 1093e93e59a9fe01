/- 'for .. := range f': one law for a loop over an iterator whose values are a known list: the caller brings an invariant by the number of rounds and one walk of the body. -/
import Derived.RangeFuncNested
import Derived.RangeFuncBound
import Derived.RangeFuncLeaves
import Derived.Below
namespace Go.Proofs.Ytekcogoijlbmnaa.Rng
open Go Go.RowKit

/-- The blocks of K lie as they lay. -/
def Keep (K : Nat → Prop) (W W' : World) : Prop := ∀ k, K k → W'.heap[k]? = W.heap[k]?

theorem Keep.refl (K : Nat → Prop) (W : World) : Keep K W W := fun _ _ => rfl
theorem Keep.trans {K : Nat → Prop} {A B C : World} (h : Keep K A B) (h' : Keep K B C) : Keep K A C := fun i hi => (h' i hi).trans (h i hi)
theorem Keep.of_below {K : Nat → Prop} {B : Nat} {W W' : World} (h : Below B W W') (hK : ∀ j, K j → j < B) : Keep K W W' := fun k hk => h.block k (hK k hk)
theorem Keep.putObj {K : Nat → Prop} {W : World} {l : Nat} (o : Obj) (hl : ¬ K l) : Keep K W (W.putObj l o) := fun _ hk => World.putObj_heap_other (fun e => hl (e ▸ hk))

/-- The iterator's contract: it hands on the list 'full', one by one, as long as yield says true; between two rounds it wants the blocks K as they were. -/
def SeqI {α : Type} (P : Program) (gf : Nat) (lb : Array Value) (encs : α → Array Value) (K : Nat → Prop) (full : List α) (w : World) : Prop :=
  ∀ (l : Nat) (J Jx : Nat → World → Prop) (W : World), Below w.heap.size w W → OwnFrom W.heap.size J → OwnFrom W.heap.size Jx →
    (∀ k x W1, J k W1 → full[k]? = some x → YieldAt Fence.wide 9 P l (encs x) W1 fun e W' =>
      (e = .returned (.bool true) ∧ J (k + 1) W' ∧ Keep K W1 W') ∨ (e = .returned (.bool false) ∧ Jx (k + 1) W')) →
    J 0 W →
    CallsIn Fence.wide 9 P gf (#[.func (.yield l) #[] #[]] ++ lb) W fun e W' => (∃ v, e = .returned v) ∧ (J full.length W' ∨ ∃ k, k ≤ full.length ∧ Jx k W')

/-- What a round's body must come to. -/
def rpost (B : Nat) (K : Nat → Prop) (I : World → Prop) (Ix : Code → World → Prop) (W : World) : Exit → Act → World → Prop
  | .normal, _, W' => KeepsFrom B W W' ∧ Keep K W W' ∧ I W'
  | .ret, _, W' => KeepsFrom B W W' ∧ Ix .ret W'
  | .exit id, _, W' => KeepsFrom B W W' ∧ Ix (.exit id) W'
  | .goto t, _, W' => KeepsFrom B W W' ∧ Ix (.goto t) W'
  | .panic _, _, _ => False
  | .outgrown, _, _ => False

variable {P : Program}

theorem ownFrom_le {β : Type} {B B' : Nat} {I : β → World → Prop} (h : OwnFrom B I) (hB : B ≤ B') : OwnFrom B' I :=
  fun s W W' row hs hg hr => h s W W' row hs hg (fun r e => ⟨Nat.le_trans hB (hr r e).1, (hr r e).2⟩)

theorem kept_obj {W W' : World} {row : Option Nat} {B k : Nat} {o : Obj} (hg : W.grownBy W' row) (hr : ∀ r, row = some r → B ≤ r ∧ ∃ o : Obj, W.heap[r]? = some o ∧ o.isCells = false) (hk : k < B) (h : W.heap[k]? = some o) : W'.heap[k]? = some o :=
  (hg.block k (Array.getElem?_eq_some_iff.1 h).1 (fun e => by have := (hr k e.symm).1; omega)).trans h

/-- A round's contract under the wide fence asks no depth. -/
theorem any_depth {n m l : Nat} {f : FuncId} {tmps : Array Value} {assign body : Code} {w : World} {R : Ending → World → Prop} (h : RoundIn Fence.wide n P l f tmps assign body w R) : RoundIn Fence.wide m P l f tmps assign body w R :=
  ⟨h.1, fun c cs _ => h.2 c cs (room_wide _)⟩

section
variable {α : Type} {g : Operand} {ps : Array Tmp} {assign body : Code} {Q : Exit → Act → World → Prop} {a : Act} {w w0 : World} {n gf : Nat} {lb : Array Value}
  {encs : α → Array Value} {K : Nat → Prop} {full : List α}

/-- ONE ROUND, out of the body's walk: l is the loop's record. -/
theorem round_of {l : Nat} {fn : FuncId} {rec : LoopState → Option Code → Loop} {I : Nat → World → Prop} {Ix : Code → World → Prop} {B k : Nat} {x : α} {W : World} {d : Nat}
    (hrec : ∀ st pe, rec st pe = { state := st, pending := pe, fn, tmps := a.tmps, params := ps, assign, body, defers := d })
    (hI : OwnFrom B I) (hIx : OwnFrom B Ix) (hBl : B ≤ l) (hKl : ¬ K l) (hps : (encs x).size = ps.size)
    (a₁ : Act) (hi : I k W) (hl : W.heap[l]? = some (.loop (rec .ready none)))
    (hassign : ∀ (W : World) (Kc : Act → World → Prop), Kc a₁ W →
      assign.wpIn (Fence.wide.inRound l) 9 P (Exit.then Kc (fun _ _ _ => False)) { tmps := (ps.zip (encs x)).foldl (fun t (p, v) => t.setIfInBounds p v) a.tmps, defers := [] } W)
    (hbody : ∀ (W : World), (∃ r, W.heap[l]? = some (.loop r)) → I k W → body.wpIn (Fence.wide.inRound l) 9 P (rpost B K (I (k + 1)) Ix W) a₁ W) :
    YieldAt Fence.wide 9 P l (encs x) W fun e W' =>
      (e = .returned (.bool true) ∧ (I (k + 1) W' ∧ W'.heap[l]? = some (.loop (rec .ready none)) ∧ ∃ Wb Wc, KeepsFrom B Wb Wc ∧ (∀ j, j ≠ l → Wb.heap[j]? = W.heap[j]?) ∧ (∀ j, j ≠ l → W'.heap[j]? = Wc.heap[j]?)) ∧ Keep K W W') ∨
      (e = .returned (.bool false) ∧ ∃ c, Ix c W' ∧ W'.heap[l]? = some (.loop (rec .done (some c))) ∧ ∃ Wb Wc, KeepsFrom B Wb Wc ∧ (∀ j, j ≠ l → Wb.heap[j]? = W.heap[j]?) ∧ (∀ j, j ≠ l → W'.heap[j]? = Wc.heap[j]?)) := by
  have hlt : l < W.heap.size := (Array.getElem?_eq_some_iff.1 hl).1
  have hy := run_yield (P := P) (args := encs x) hl (by rw [hrec]; exact hps)
  rw [hrec] at hy
  refine ⟨fn, _, assign, body, hy, roundIn_of_wpIn trivial (hassign W _ ?_)⟩
  refine ⟨_, run_beginRound hl (by rw [hrec]), ?_⟩
  have hl2 : (W.putObj l (.loop { rec .ready none with state := .busy })).heap[l]? = some (.loop { rec .ready none with state := .busy }) := World.putObj_heap_same hlt
  refine wpIn_mono (hbody _ ⟨_, hl2⟩ (hI.putObj _ hi hBl hl rfl)) ?_
  have fin : ∀ (jump : Option Code) (W3 : World), KeepsFrom B (W.putObj l (.loop { rec .ready none with state := .busy })) W3 →
      (Instr.endRound l jump).run P W3 = .ok (.bool jump.isNone) (W3.putObj l (.loop (rec (if jump.isNone then .ready else .done) jump))) ∧
      W3.heap[l]? = some (.loop { rec .ready none with state := .busy }) ∧
      (W3.putObj l (.loop (rec (if jump.isNone then .ready else .done) jump))).heap[l]? = some (.loop (rec (if jump.isNone then .ready else .done) jump)) := fun jump W3 hk3 => by
    have hl3 := hk3.same _ _ hBl hl2 rfl
    have := run_endRound (P := P) jump hl3
    refine ⟨?_, hl3, World.putObj_heap_same (Array.getElem?_eq_some_iff.1 hl3).1⟩
    rw [hrec] at this ⊢
    exact this
  have far : ∀ (W3 : World) (o : Obj), KeepsFrom B (W.putObj l (.loop { rec .ready none with state := .busy })) W3 →
      ∃ Wb Wc, KeepsFrom B Wb Wc ∧ (∀ j, j ≠ l → Wb.heap[j]? = W.heap[j]?) ∧ (∀ j, j ≠ l → (W3.putObj l o).heap[j]? = Wc.heap[j]?) := fun W3 o hk3 =>
    ⟨_, W3, hk3, fun j hj => World.putObj_heap_other hj, fun j hj => World.putObj_heap_other hj⟩
  rintro e a3 W3 hp
  cases e with
  | normal =>
    obtain ⟨hk3, hkp3, hi3⟩ := hp
    obtain ⟨hr, hl3, hl4⟩ := fin none W3 hk3
    exact ⟨_, _, hr, .inl ⟨rfl, ⟨hI.putObj _ hi3 hBl hl3 rfl, hl4, far _ _ hk3⟩, ((Keep.putObj _ hKl).trans hkp3).trans (Keep.putObj _ hKl)⟩⟩
  | ret =>
    obtain ⟨hk3, hi3⟩ := hp
    obtain ⟨hr, hl3, hl4⟩ := fin (some .ret) W3 hk3
    exact ⟨_, _, hr, .inr ⟨rfl, .ret, hIx.putObj _ hi3 hBl hl3 rfl, hl4, far _ _ hk3⟩⟩
  | exit id =>
    obtain ⟨hk3, hi3⟩ := hp
    obtain ⟨hr, hl3, hl4⟩ := fin (some (.exit id)) W3 hk3
    exact ⟨_, _, hr, .inr ⟨rfl, .exit id, hIx.putObj _ hi3 hBl hl3 rfl, hl4, far _ _ hk3⟩⟩
  | goto t =>
    obtain ⟨hk3, hi3⟩ := hp
    obtain ⟨hr, hl3, hl4⟩ := fin (some (.goto t)) W3 hk3
    exact ⟨_, _, hr, .inr ⟨rfl, .goto t, hIx.putObj _ hi3 hBl hl3 rfl, hl4, far _ _ hk3⟩⟩
  | panic ch => exact hp.elim
  | outgrown => exact hp.elim

/-- **THE LAW, of a loop that stands in no other such loop.** -/
theorem outer (hg : a.eval g = .func (.func gf) #[] lb) (eg : ∀ args w, (callFunc gf args).run P w = .ok (.enter gf args) w)
    (hseq : SeqI P gf lb encs K full w0) (hb0 : Below w0.heap.size w0 w) (hK : ∀ k, K k → k < w.heap.size) (hps : ∀ x, (encs x).size = ps.size)
    (I : Nat → World → Prop) (Ix : Code → World → Prop) (hI : OwnFrom w.heap.size I) (hIx : OwnFrom w.heap.size Ix) (h0 : I 0 w) (a₁ : α → Act)
    (hassign : ∀ (l : Nat) (x : α) (W : World) (Kc : Act → World → Prop), Kc (a₁ x) W →
      assign.wpIn (Fence.wide.inRound l) 9 P (Exit.then Kc (fun _ _ _ => False)) { tmps := (ps.zip (encs x)).foldl (fun t (p, v) => t.setIfInBounds p v) a.tmps, defers := [] } W)
    (hbody : ∀ (l k : Nat) (x : α) (W : World), w.heap.size ≤ l → (∃ r, W.heap[l]? = some (.loop r)) → I k W → full[k]? = some x → body.wpIn (Fence.wide.inRound l) 9 P (rpost w.heap.size K (I (k + 1)) Ix W) (a₁ x) W)
    (hdone : ∀ (D : Nat) (W : World), w.heap.size ≤ D → I full.length W → W.heap[D]? = some (.deferred (some [])) → Q .normal { a with defers := { target := .collected D, args := #[] } :: a.defers } W)
    (hstop : ∀ (D : Nat) (c : Code) (W : World), w.heap.size ≤ D → Ix c W → W.heap[D]? = some (.deferred (some [])) → c.wpIn Fence.wide n P Q { a with defers := { target := .collected D, args := #[] } :: a.defers } W) :
    (Code.rangeFunc g ps assign body).wpIn Fence.wide n P Q a w := by
  refine wpIn_rangeFunc ?_
  intro fn hfn
  obtain ⟨rec, hrec⟩ : ∃ rec : LoopState → Option Code → Loop, ∀ st pe, rec st pe = { state := st, pending := pe, fn, tmps := a.tmps, params := ps, assign, body, defers := w.heap.size } := ⟨_, fun _ _ => rfl⟩
  obtain ⟨W1, hW1⟩ : ∃ W1, (w.alloc (.deferred (some []))).alloc (.loop (rec .ready none)) = W1 := ⟨_, rfl⟩
  have hL1 : W1.heap[w.heap.size + 1]? = some (.loop (rec .ready none)) := by
    rw [← hW1]; have := World.alloc_heap_new (w.alloc (.deferred (some []))) (.loop (rec .ready none)); rwa [World.size_alloc] at this
  have hK1 : W1.heap[w.heap.size]? = some (.deferred (some [])) := by
    rw [← hW1]; exact (Below.heap_alloc _ _ _ (by simp)).trans (World.alloc_heap_new w _)
  have hs1 : W1.heap.size = w.heap.size + 2 := by rw [← hW1]; simp
  have hI1 : I 0 W1 := by rw [← hW1]; exact hI.alloc _ (hI.alloc _ h0)
  have hb1 : Below w0.heap.size w0 W1 := by
    rw [← hW1]; exact hb0.trans ((((Below.refl _ w).alloc (Nat.le_refl _) _).alloc (by simp) _).mono hb0.size)
  refine ⟨w.heap.size + 1, [{ target := .collected w.heap.size, args := #[] }], W1, { target := .fn (.func gf) lb, args := #[.func (.yield (w.heap.size + 1)) #[] #[]] }, W1, gf,
    #[.func (.yield (w.heap.size + 1)) #[] #[]] ++ lb, W1, ?_, ?_, ?_, ?_, ?_, ?_⟩
  · rw [← hW1, hrec]; exact run_enterLoop_outer _ _ _ _ _
  · simp only [resolve, hg]
    simp [go_sem]
  · intro _ _; trivial
  · simp [invoke, go_sem, eg]
  · intro h; simp [Fence.wide] at h
  · have hnw : ∀ {A : World} {row : Option Nat}, (∀ r, row = some r → W1.heap.size ≤ r ∧ ∃ o : Obj, A.heap[r]? = some o ∧ o.isCells = false) → (∀ r, row = some r → w.heap.size ≤ r ∧ ∃ o : Obj, A.heap[r]? = some o ∧ o.isCells = false) :=
      fun hr r e => ⟨by have := (hr r e).1; omega, (hr r e).2⟩
    refine callsIn_wide.2 (callsIn_wide.1 ((hseq (w.heap.size + 1)
      (fun k W => I k W ∧ W.heap[w.heap.size + 1]? = some (.loop (rec .ready none)) ∧ W.heap[w.heap.size]? = some (.deferred (some [])))
      (fun _ W => ∃ c, Ix c W ∧ W.heap[w.heap.size + 1]? = some (.loop (rec .done (some c))) ∧ W.heap[w.heap.size]? = some (.deferred (some [])))
      W1 hb1
      (fun s A B row hs hg' hr => ⟨hI s A B row hs.1 hg' (hnw hr), kept_obj hg' hr (by omega) hs.2.1, kept_obj hg' hr (by omega) hs.2.2⟩)
      (fun s A B row hs hg' hr => by
        obtain ⟨c, hc, hl, hk⟩ := hs
        exact ⟨c, hIx c A B row hc hg' (hnw hr), kept_obj hg' hr (by omega) hl, kept_obj hg' hr (by omega) hk⟩)
      ?_ ⟨hI1, hL1, hK1⟩).mono ?_))
    · rintro k x W ⟨hi, hl, hk⟩ hx
      have hkB : ∀ (W' : World), (∃ Wb Wc, KeepsFrom w.heap.size Wb Wc ∧ (∀ j, j ≠ w.heap.size + 1 → Wb.heap[j]? = W.heap[j]?) ∧ (∀ j, j ≠ w.heap.size + 1 → W'.heap[j]? = Wc.heap[j]?)) → W'.heap[w.heap.size]? = some (.deferred (some [])) := by
        rintro W' ⟨Wb, Wc, h1, h2, h3⟩
        exact (h3 _ (by omega)).trans (h1.same _ _ (Nat.le_refl _) ((h2 _ (by omega)).trans hk) rfl)
      refine (round_of (B := w.heap.size) hrec hI hIx (by omega) (fun h => by have := hK _ h; omega) (hps x) (a₁ x) hi hl (hassign _ x) (fun W2 hr2 hi2 => hbody _ k x W2 (by omega) hr2 hi2 hx)).mono ?_
      rintro e W' (⟨rfl, ⟨h1, h2, h3⟩, h4⟩ | ⟨rfl, c, h1, h2, h3⟩)
      · exact .inl ⟨rfl, ⟨h1, h2, hkB _ h3⟩, h4⟩
      · exact .inr ⟨rfl, c, h1, h2, hkB _ h3⟩
    · rintro e W2 ⟨⟨v, rfl⟩, (⟨hi, hl, hk⟩ | ⟨k, hkl, c, hi, hl, hk⟩)⟩
      · exact ⟨none, _, by have := run_endLoop (P := P) hl (by rw [hrec]; simp); rw [hrec] at this; exact this, hdone _ _ (Nat.le_refl _) (hI.putObj _ hi (by omega) hl rfl) ((World.putObj_heap_other (by omega)).trans hk)⟩
      · exact ⟨some c, _, by have := run_endLoop (P := P) hl (by rw [hrec]; simp); rw [hrec] at this; exact this, hstop _ c _ (Nat.le_refl _) (hIx.putObj _ hi (by omega) hl rfl) ((World.putObj_heap_other (by omega)).trans hk)⟩

/-- **THE LAW, of a loop that stands in the body of another such loop.** -/
theorem inner {l₀ : Nat} {r₀ : Loop} (hl₀ : w.heap[l₀]? = some (.loop r₀)) (hg : a.eval g = .func (.func gf) #[] lb) (eg : ∀ args w, (callFunc gf args).run P w = .ok (.enter gf args) w)
    (hseq : SeqI P gf lb encs K full w0) (hb0 : Below w0.heap.size w0 w) (hK : ∀ k, K k → k < w.heap.size) (hps : ∀ x, (encs x).size = ps.size)
    (I : Nat → World → Prop) (Ix : Code → World → Prop) (hI : OwnFrom w.heap.size I) (hIx : OwnFrom w.heap.size Ix) (h0 : I 0 w) (a₁ : α → Act)
    (hassign : ∀ (l : Nat) (x : α) (W : World) (Kc : Act → World → Prop), Kc (a₁ x) W →
      assign.wpIn (Fence.wide.inRound l) 9 P (Exit.then Kc (fun _ _ _ => False)) { tmps := (ps.zip (encs x)).foldl (fun t (p, v) => t.setIfInBounds p v) a.tmps, defers := [] } W)
    (hbody : ∀ (l k : Nat) (x : α) (W : World), w.heap.size ≤ l → (∃ r, W.heap[l]? = some (.loop r)) → I k W → full[k]? = some x → body.wpIn (Fence.wide.inRound l) 9 P (rpost w.heap.size K (I (k + 1)) Ix W) (a₁ x) W)
    (hdone : ∀ (W : World), I full.length W → Q .normal a W)
    (hstop : ∀ (c : Code) (W : World), Ix c W → c.wpIn (Fence.wide.inRound l₀) n P Q a W) :
    (Code.rangeFunc g ps assign body).wpIn (Fence.wide.inRound l₀) n P Q a w := by
  refine wpIn_rangeFunc ?_
  intro fn hfn
  obtain ⟨rec, hrec⟩ : ∃ rec : LoopState → Option Code → Loop, ∀ st pe, rec st pe = { state := st, pending := pe, fn, tmps := a.tmps, params := ps, assign, body, defers := r₀.defers } := ⟨_, fun _ _ => rfl⟩
  obtain ⟨W1, hW1⟩ : ∃ W1, w.alloc (.loop (rec .ready none)) = W1 := ⟨_, rfl⟩
  have hL1 : W1.heap[w.heap.size]? = some (.loop (rec .ready none)) := by rw [← hW1]; exact World.alloc_heap_new w _
  have hs1 : W1.heap.size = w.heap.size + 1 := by rw [← hW1]; simp
  have hI1 : I 0 W1 := by rw [← hW1]; exact hI.alloc _ h0
  have hb1 : Below w0.heap.size w0 W1 := by
    rw [← hW1]; exact hb0.trans (((Below.refl _ w).alloc (Nat.le_refl _) _).mono hb0.size)
  refine ⟨w.heap.size, [], W1, { target := .fn (.func gf) lb, args := #[.func (.yield w.heap.size) #[] #[]] }, W1, gf,
    #[.func (.yield w.heap.size) #[] #[]] ++ lb, W1, ?_, ?_, ?_, ?_, ?_, ?_⟩
  · rw [← hW1, hrec]; exact run_enterLoop_inner hl₀ _ _ _ _ _
  · simp only [resolve, hg]
    simp [go_sem]
  · intro _ _; trivial
  · simp [invoke, go_sem, eg]
  · intro h; simp [Fence.wide] at h
  · have hnw : ∀ {A : World} {row : Option Nat}, (∀ r, row = some r → W1.heap.size ≤ r ∧ ∃ o : Obj, A.heap[r]? = some o ∧ o.isCells = false) → (∀ r, row = some r → w.heap.size ≤ r ∧ ∃ o : Obj, A.heap[r]? = some o ∧ o.isCells = false) :=
      fun hr r e => ⟨by have := (hr r e).1; omega, (hr r e).2⟩
    have main : Calls P gf (#[.func (.yield w.heap.size) #[] #[]] ++ lb) W1 (rangePost (Fence.wide.inRound l₀) n P w.heap.size Q { a with defers := [] ++ a.defers }) := by
      refine callsIn_wide.1 ((hseq w.heap.size
        (fun k W => I k W ∧ W.heap[w.heap.size]? = some (.loop (rec .ready none)))
        (fun _ W => ∃ c, Ix c W ∧ W.heap[w.heap.size]? = some (.loop (rec .done (some c))))
        W1 hb1
        (fun s A B row hs hg' hr => ⟨hI s A B row hs.1 hg' (hnw hr), kept_obj hg' hr (by omega) hs.2⟩)
        (fun s A B row hs hg' hr => by
          obtain ⟨c, hc, hl⟩ := hs
          exact ⟨c, hIx c A B row hc hg' (hnw hr), kept_obj hg' hr (by omega) hl⟩)
        ?_ ⟨hI1, hL1⟩).mono ?_)
      · rintro k x W ⟨hi, hl⟩ hx
        refine (round_of (B := w.heap.size) hrec hI hIx (Nat.le_refl _) (fun h => by have := hK _ h; omega) (hps x) (a₁ x) hi hl (hassign _ x) (fun W2 hr2 hi2 => hbody _ k x W2 (Nat.le_refl _) hr2 hi2 hx)).mono ?_
        rintro e W' (⟨rfl, ⟨h1, h2, h3⟩, h4⟩ | ⟨rfl, c, h1, h2, h3⟩)
        · exact .inl ⟨rfl, ⟨h1, h2⟩, h4⟩
        · exact .inr ⟨rfl, c, h1, h2⟩
      · rintro e W2 ⟨⟨v, rfl⟩, (⟨hi, hl⟩ | ⟨k, hkl, c, hi, hl⟩)⟩
        · exact ⟨none, _, by have := run_endLoop (P := P) hl (by rw [hrec]; simp); rw [hrec] at this; exact this, hdone _ (hI.putObj _ hi (Nat.le_refl _) hl rfl)⟩
        · exact ⟨some c, _, by have := run_endLoop (P := P) hl (by rw [hrec]; simp); rw [hrec] at this; exact this, hstop c _ (hIx.putObj _ hi (Nat.le_refl _) hl rfl)⟩
    exact CallsIn.inRound (F := Fence.wide) l₀ (callsIn_wide.2 main)
end

/-! ### the return of a function that holds such loops: a mark for each outermost one that was entered -/
section
variable {n D D' : Nat} {fn : Func} {R : Ending → World → Prop} {a : Act} {W : World} {v : Value}
theorem ret0 (hd : a.defers = []) (hres : (results fn a.tmps).run P W = .ok v W) (hR : R (.returned v) W) : bodyPostM Fence.wide n P fn R .ret a W := by
  show LeavesInM Fence.wide n P fn a.tmps R a.defers .returning W
  rw [hd]; exact ⟨v, hres, hR⟩
theorem ret1 (hd : a.defers = [{ target := .collected D, args := #[] }]) (hK : W.heap[D]? = some (.deferred (some [])))
    (hres : (results fn a.tmps).run P (W.putObj D (.deferred none)) = .ok v (W.putObj D (.deferred none))) (hR : R (.returned v) (W.putObj D (.deferred none))) : bodyPostM Fence.wide n P fn R .ret a W := by
  show LeavesInM Fence.wide n P fn a.tmps R a.defers .returning W
  rw [hd]; exact ⟨by simp, .inl ⟨_, _, rfl, run_takeDeferred hK, v, hres, hR⟩⟩
theorem ret2 (hd : a.defers = [{ target := .collected D, args := #[] }, { target := .collected D', args := #[] }]) (hK : W.heap[D]? = some (.deferred (some []))) (hK' : W.heap[D']? = some (.deferred (some []))) (hne : D' ≠ D)
    (hres : (results fn a.tmps).run P ((W.putObj D (.deferred none)).putObj D' (.deferred none)) = .ok v ((W.putObj D (.deferred none)).putObj D' (.deferred none))) (hR : R (.returned v) ((W.putObj D (.deferred none)).putObj D' (.deferred none))) : bodyPostM Fence.wide n P fn R .ret a W := by
  show LeavesInM Fence.wide n P fn a.tmps R a.defers .returning W
  rw [hd]; exact ⟨by simp, .inl ⟨_, _, rfl, run_takeDeferred hK, by simp, .inl ⟨_, _, rfl, run_takeDeferred ((World.putObj_heap_other hne).trans hK'), v, hres, hR⟩⟩⟩
theorem putObj_cell {p : Addr} (o : Obj) (hp : p.block ≠ D) : (W.putObj D o).cell? p = W.cell? p := World.cell?_of_block (World.putObj_heap_other hp)
theorem putObj_below {w : World} {B : Nat} (h : Below B w W) (o : Obj) (hD : B ≤ D) : Below B w (W.putObj D o) :=
  h.trans ⟨rfl, rfl, rfl, by simp, fun k hk => World.putObj_heap_other (by omega)⟩
end
end Go.Proofs.Ytekcogoijlbmnaa.Rng
