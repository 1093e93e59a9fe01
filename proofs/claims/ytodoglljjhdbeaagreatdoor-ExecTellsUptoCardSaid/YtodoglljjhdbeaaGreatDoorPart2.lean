/- Part2: Range, Several, StillIn, Only, Sketch2, Sketch3, Ops, Op5, Sketch4, SpecBloom, Pop, Bloom1, Bloom2, Bloom3, Op4, Bloom4, one behind the other. -/
import Derived.RangeFuncNested
import Derived.RangeFuncBound
import Derived.RangeFuncLeaves
import Derived.Below
import Derived.Test.YtodoglljjhdbeaaGreatDoorPart1
import Derived.Shelf.Abstract
import Derived.Shelf.RegionOpen
import Derived.OwnWalkIn
import Derived.TacticsInMore
import Derived.LoopNIn
import Derived.LoopIn
import Derived.StillTailTactics
import Derived.OrdersIn
import Derived.TacticsIn
import Derived.RangeFuncCalls
import Derived.Deep.WholeRow
import Derived.Test.YtodoglljjhdbeaaGreatDoorProg
import Derived.Deep.Slices
import Derived.Deep.Fields
import Derived.ChangeSame
import Derived.WalkKit
import Derived.Laws.BitsAllLaws
import Derived.Laws.Bits128
import Derived.WalkSpells
import Derived.WalkLawsBesides
import Derived.Lib.Hide
import Derived.KernelRfl
import Derived.Lib.SliceRun
import Derived.Deep.LoopGhost
/- 'for .. := range f': one law for a loop over an iterator whose values are a known list: the caller brings an invariant by the number of rounds and one walk of the body. -/
namespace Go.Proofs.YtodoglljjhdbeaaGreatDoor.Rng
open Go Go.RowKit

/-- The blocks of K lie as they lay. -/
def Keep (K : Nat → Prop) (W W' : World) : Prop := ∀ k, K k → W'.heap[k]? = W.heap[k]?

theorem Keep.refl (K : Nat → Prop) (W : World) : Keep K W W := fun _ _ => rfl
theorem Keep.trans {K : Nat → Prop} {A B C : World} (h : Keep K A B) (h' : Keep K B C) : Keep K A C := fun i hi => (h' i hi).trans (h i hi)
theorem Keep.of_below {K : Nat → Prop} {B : Nat} {W W' : World} (h : Below B W W') (hK : ∀ j, K j → j < B) : Keep K W W' := fun k hk => h.block k (hK k hk)
theorem Keep.putObj {K : Nat → Prop} {W : World} {l : Nat} (o : Obj) (hl : ¬ K l) : Keep K W (W.putObj l o) := fun _ hk => World.putObj_heap_other (fun e => hl (e ▸ hk))

/-- The iterator's contract: it hands on the list 'full', one by one, as long as yield says true; between two rounds it wants the blocks K as they were. -/
def SeqI {α : Type} (P : Program) (gf : Nat) (lb : Array Value) (encs : α → Array Value) (K : Nat → Prop) (full : List α) (w : World) : Prop :=
  ∀ (l : Nat) (J Jx : Nat → World → Prop) (W : World), Below w.heap.size w W → OwnFrom W.heap.size J → OwnFrom W.heap.size Jx →
    (∀ k x W1, J k W1 → full[k]? = some x → YieldAt Fence.wide 9 P l (encs x) W1 fun e W' =>
      (e = .returned (.bool true) ∧ J (k + 1) W' ∧ Keep K W1 W') ∨ (e = .returned (.bool false) ∧ Jx (k + 1) W')) →
    J 0 W →
    CallsIn Fence.wide 9 P gf (#[.func (.yield l) #[] #[]] ++ lb) W fun e W' => (∃ v, e = .returned v) ∧ (J full.length W' ∨ ∃ k, k ≤ full.length ∧ Jx k W')

/-- What a round's body must come to. -/
def rpost (B : Nat) (K : Nat → Prop) (I : World → Prop) (Ix : Code → World → Prop) (W : World) : Exit → Act → World → Prop
  | .normal, _, W' => KeepsFrom B W W' ∧ Keep K W W' ∧ I W'
  | .ret, _, W' => KeepsFrom B W W' ∧ Ix .ret W'
  | .exit id, _, W' => KeepsFrom B W W' ∧ Ix (.exit id) W'
  | .goto t, _, W' => KeepsFrom B W W' ∧ Ix (.goto t) W'
  | .panic _, _, _ => False
  | .outgrown, _, _ => False

variable {P : Program}

theorem ownFrom_le {β : Type} {B B' : Nat} {I : β → World → Prop} (h : OwnFrom B I) (hB : B ≤ B') : OwnFrom B' I :=
  fun s W W' row hs hg hr => h s W W' row hs hg (fun r e => ⟨Nat.le_trans hB (hr r e).1, (hr r e).2⟩)

theorem kept_obj {W W' : World} {row : Option Nat} {B k : Nat} {o : Obj} (hg : W.grownBy W' row) (hr : ∀ r, row = some r → B ≤ r ∧ ∃ o : Obj, W.heap[r]? = some o ∧ o.isCells = false) (hk : k < B) (h : W.heap[k]? = some o) : W'.heap[k]? = some o :=
  (hg.block k (Array.getElem?_eq_some_iff.1 h).1 (fun e => by have := (hr k e.symm).1; omega)).trans h

/-- A round's contract under the wide fence asks no depth. -/
theorem any_depth {n m l : Nat} {f : FuncId} {tmps : Array Value} {assign body : Code} {w : World} {R : Ending → World → Prop} (h : RoundIn Fence.wide n P l f tmps assign body w R) : RoundIn Fence.wide m P l f tmps assign body w R :=
  ⟨h.1, fun c cs _ => h.2 c cs (room_wide _)⟩

section
variable {α : Type} {g : Operand} {ps : Array Tmp} {assign body : Code} {Q : Exit → Act → World → Prop} {a : Act} {w w0 : World} {n gf : Nat} {lb : Array Value}
  {encs : α → Array Value} {K : Nat → Prop} {full : List α}

/-- ONE ROUND, out of the body's walk: l is the loop's record. -/
theorem round_of {l : Nat} {fn : FuncId} {rec : LoopState → Option Code → Loop} {I : Nat → World → Prop} {Ix : Code → World → Prop} {B k : Nat} {x : α} {W : World} {d : Nat}
    (hrec : ∀ st pe, rec st pe = { state := st, pending := pe, fn, tmps := a.tmps, params := ps, assign, body, defers := d })
    (hI : OwnFrom B I) (hIx : OwnFrom B Ix) (hBl : B ≤ l) (hKl : ¬ K l) (hps : (encs x).size = ps.size)
    (a₁ : Act) (hi : I k W) (hl : W.heap[l]? = some (.loop (rec .ready none)))
    (hassign : ∀ (W : World) (Kc : Act → World → Prop), Kc a₁ W →
      assign.wpIn (Fence.wide.inRound l) 9 P (Exit.then Kc (fun _ _ _ => False)) { tmps := (ps.zip (encs x)).foldl (fun t (p, v) => t.setIfInBounds p v) a.tmps, defers := [] } W)
    (hbody : ∀ (W : World), (∃ r, W.heap[l]? = some (.loop r)) → I k W → body.wpIn (Fence.wide.inRound l) 9 P (rpost B K (I (k + 1)) Ix W) a₁ W) :
    YieldAt Fence.wide 9 P l (encs x) W fun e W' =>
      (e = .returned (.bool true) ∧ (I (k + 1) W' ∧ W'.heap[l]? = some (.loop (rec .ready none)) ∧ ∃ Wb Wc, KeepsFrom B Wb Wc ∧ (∀ j, j ≠ l → Wb.heap[j]? = W.heap[j]?) ∧ (∀ j, j ≠ l → W'.heap[j]? = Wc.heap[j]?)) ∧ Keep K W W') ∨
      (e = .returned (.bool false) ∧ ∃ c, Ix c W' ∧ W'.heap[l]? = some (.loop (rec .done (some c))) ∧ ∃ Wb Wc, KeepsFrom B Wb Wc ∧ (∀ j, j ≠ l → Wb.heap[j]? = W.heap[j]?) ∧ (∀ j, j ≠ l → W'.heap[j]? = Wc.heap[j]?)) := by
  have hlt : l < W.heap.size := (Array.getElem?_eq_some_iff.1 hl).1
  have hy := run_yield (P := P) (args := encs x) hl (by rw [hrec]; exact hps)
  rw [hrec] at hy
  refine ⟨fn, _, assign, body, hy, roundIn_of_wpIn trivial (hassign W _ ?_)⟩
  refine ⟨_, run_beginRound hl (by rw [hrec]), ?_⟩
  have hl2 : (W.putObj l (.loop { rec .ready none with state := .busy })).heap[l]? = some (.loop { rec .ready none with state := .busy }) := World.putObj_heap_same hlt
  refine wpIn_mono (hbody _ ⟨_, hl2⟩ (hI.putObj _ hi hBl hl rfl)) ?_
  have fin : ∀ (jump : Option Code) (W3 : World), KeepsFrom B (W.putObj l (.loop { rec .ready none with state := .busy })) W3 →
      (Instr.endRound l jump).run P W3 = .ok (.bool jump.isNone) (W3.putObj l (.loop (rec (if jump.isNone then .ready else .done) jump))) ∧
      W3.heap[l]? = some (.loop { rec .ready none with state := .busy }) ∧
      (W3.putObj l (.loop (rec (if jump.isNone then .ready else .done) jump))).heap[l]? = some (.loop (rec (if jump.isNone then .ready else .done) jump)) := fun jump W3 hk3 => by
    have hl3 := hk3.same _ _ hBl hl2 rfl
    have := run_endRound (P := P) jump hl3
    refine ⟨?_, hl3, World.putObj_heap_same (Array.getElem?_eq_some_iff.1 hl3).1⟩
    rw [hrec] at this ⊢
    exact this
  have far : ∀ (W3 : World) (o : Obj), KeepsFrom B (W.putObj l (.loop { rec .ready none with state := .busy })) W3 →
      ∃ Wb Wc, KeepsFrom B Wb Wc ∧ (∀ j, j ≠ l → Wb.heap[j]? = W.heap[j]?) ∧ (∀ j, j ≠ l → (W3.putObj l o).heap[j]? = Wc.heap[j]?) := fun W3 o hk3 =>
    ⟨_, W3, hk3, fun j hj => World.putObj_heap_other hj, fun j hj => World.putObj_heap_other hj⟩
  rintro e a3 W3 hp
  cases e with
  | normal =>
    obtain ⟨hk3, hkp3, hi3⟩ := hp
    obtain ⟨hr, hl3, hl4⟩ := fin none W3 hk3
    exact ⟨_, _, hr, .inl ⟨rfl, ⟨hI.putObj _ hi3 hBl hl3 rfl, hl4, far _ _ hk3⟩, ((Keep.putObj _ hKl).trans hkp3).trans (Keep.putObj _ hKl)⟩⟩
  | ret =>
    obtain ⟨hk3, hi3⟩ := hp
    obtain ⟨hr, hl3, hl4⟩ := fin (some .ret) W3 hk3
    exact ⟨_, _, hr, .inr ⟨rfl, .ret, hIx.putObj _ hi3 hBl hl3 rfl, hl4, far _ _ hk3⟩⟩
  | exit id =>
    obtain ⟨hk3, hi3⟩ := hp
    obtain ⟨hr, hl3, hl4⟩ := fin (some (.exit id)) W3 hk3
    exact ⟨_, _, hr, .inr ⟨rfl, .exit id, hIx.putObj _ hi3 hBl hl3 rfl, hl4, far _ _ hk3⟩⟩
  | goto t =>
    obtain ⟨hk3, hi3⟩ := hp
    obtain ⟨hr, hl3, hl4⟩ := fin (some (.goto t)) W3 hk3
    exact ⟨_, _, hr, .inr ⟨rfl, .goto t, hIx.putObj _ hi3 hBl hl3 rfl, hl4, far _ _ hk3⟩⟩
  | panic ch => exact hp.elim
  | outgrown => exact hp.elim

/-- **THE LAW, of a loop that stands in no other such loop.** -/
theorem outer (hg : a.eval g = .func (.func gf) #[] lb) (eg : ∀ args w, (callFunc gf args).run P w = .ok (.enter gf args) w)
    (hseq : SeqI P gf lb encs K full w0) (hb0 : Below w0.heap.size w0 w) (hK : ∀ k, K k → k < w.heap.size) (hps : ∀ x, (encs x).size = ps.size)
    (I : Nat → World → Prop) (Ix : Code → World → Prop) (hI : OwnFrom w.heap.size I) (hIx : OwnFrom w.heap.size Ix) (h0 : I 0 w) (a₁ : α → Act)
    (hassign : ∀ (l : Nat) (x : α) (W : World) (Kc : Act → World → Prop), Kc (a₁ x) W →
      assign.wpIn (Fence.wide.inRound l) 9 P (Exit.then Kc (fun _ _ _ => False)) { tmps := (ps.zip (encs x)).foldl (fun t (p, v) => t.setIfInBounds p v) a.tmps, defers := [] } W)
    (hbody : ∀ (l k : Nat) (x : α) (W : World), w.heap.size ≤ l → (∃ r, W.heap[l]? = some (.loop r)) → I k W → full[k]? = some x → body.wpIn (Fence.wide.inRound l) 9 P (rpost w.heap.size K (I (k + 1)) Ix W) (a₁ x) W)
    (hdone : ∀ (D : Nat) (W : World), w.heap.size ≤ D → I full.length W → W.heap[D]? = some (.deferred (some [])) → Q .normal { a with defers := { target := .collected D, args := #[] } :: a.defers } W)
    (hstop : ∀ (D : Nat) (c : Code) (W : World), w.heap.size ≤ D → Ix c W → W.heap[D]? = some (.deferred (some [])) → c.wpIn Fence.wide n P Q { a with defers := { target := .collected D, args := #[] } :: a.defers } W) :
    (Code.rangeFunc g ps assign body).wpIn Fence.wide n P Q a w := by
  refine wpIn_rangeFunc ?_
  intro fn hfn
  obtain ⟨rec, hrec⟩ : ∃ rec : LoopState → Option Code → Loop, ∀ st pe, rec st pe = { state := st, pending := pe, fn, tmps := a.tmps, params := ps, assign, body, defers := w.heap.size } := ⟨_, fun _ _ => rfl⟩
  obtain ⟨W1, hW1⟩ : ∃ W1, (w.alloc (.deferred (some []))).alloc (.loop (rec .ready none)) = W1 := ⟨_, rfl⟩
  have hL1 : W1.heap[w.heap.size + 1]? = some (.loop (rec .ready none)) := by
    rw [← hW1]; have := World.alloc_heap_new (w.alloc (.deferred (some []))) (.loop (rec .ready none)); rwa [World.size_alloc] at this
  have hK1 : W1.heap[w.heap.size]? = some (.deferred (some [])) := by
    rw [← hW1]; exact (Below.heap_alloc _ _ _ (by simp)).trans (World.alloc_heap_new w _)
  have hs1 : W1.heap.size = w.heap.size + 2 := by rw [← hW1]; simp
  have hI1 : I 0 W1 := by rw [← hW1]; exact hI.alloc _ (hI.alloc _ h0)
  have hb1 : Below w0.heap.size w0 W1 := by
    rw [← hW1]; exact hb0.trans ((((Below.refl _ w).alloc (Nat.le_refl _) _).alloc (by simp) _).mono hb0.size)
  refine ⟨w.heap.size + 1, [{ target := .collected w.heap.size, args := #[] }], W1, { target := .fn (.func gf) lb, args := #[.func (.yield (w.heap.size + 1)) #[] #[]] }, W1, gf,
    #[.func (.yield (w.heap.size + 1)) #[] #[]] ++ lb, W1, ?_, ?_, ?_, ?_, ?_, ?_⟩
  · rw [← hW1, hrec]; exact run_enterLoop_outer _ _ _ _ _
  · simp only [resolve, hg]
    simp [go_sem]
  · intro _ _; trivial
  · simp [invoke, go_sem, eg]
  · intro h; simp [Fence.wide] at h
  · have hnw : ∀ {A : World} {row : Option Nat}, (∀ r, row = some r → W1.heap.size ≤ r ∧ ∃ o : Obj, A.heap[r]? = some o ∧ o.isCells = false) → (∀ r, row = some r → w.heap.size ≤ r ∧ ∃ o : Obj, A.heap[r]? = some o ∧ o.isCells = false) :=
      fun hr r e => ⟨by have := (hr r e).1; omega, (hr r e).2⟩
    refine callsIn_wide.2 (callsIn_wide.1 ((hseq (w.heap.size + 1)
      (fun k W => I k W ∧ W.heap[w.heap.size + 1]? = some (.loop (rec .ready none)) ∧ W.heap[w.heap.size]? = some (.deferred (some [])))
      (fun _ W => ∃ c, Ix c W ∧ W.heap[w.heap.size + 1]? = some (.loop (rec .done (some c))) ∧ W.heap[w.heap.size]? = some (.deferred (some [])))
      W1 hb1
      (fun s A B row hs hg' hr => ⟨hI s A B row hs.1 hg' (hnw hr), kept_obj hg' hr (by omega) hs.2.1, kept_obj hg' hr (by omega) hs.2.2⟩)
      (fun s A B row hs hg' hr => by
        obtain ⟨c, hc, hl, hk⟩ := hs
        exact ⟨c, hIx c A B row hc hg' (hnw hr), kept_obj hg' hr (by omega) hl, kept_obj hg' hr (by omega) hk⟩)
      ?_ ⟨hI1, hL1, hK1⟩).mono ?_))
    · rintro k x W ⟨hi, hl, hk⟩ hx
      have hkB : ∀ (W' : World), (∃ Wb Wc, KeepsFrom w.heap.size Wb Wc ∧ (∀ j, j ≠ w.heap.size + 1 → Wb.heap[j]? = W.heap[j]?) ∧ (∀ j, j ≠ w.heap.size + 1 → W'.heap[j]? = Wc.heap[j]?)) → W'.heap[w.heap.size]? = some (.deferred (some [])) := by
        rintro W' ⟨Wb, Wc, h1, h2, h3⟩
        exact (h3 _ (by omega)).trans (h1.same _ _ (Nat.le_refl _) ((h2 _ (by omega)).trans hk) rfl)
      refine (round_of (B := w.heap.size) hrec hI hIx (by omega) (fun h => by have := hK _ h; omega) (hps x) (a₁ x) hi hl (hassign _ x) (fun W2 hr2 hi2 => hbody _ k x W2 (by omega) hr2 hi2 hx)).mono ?_
      rintro e W' (⟨rfl, ⟨h1, h2, h3⟩, h4⟩ | ⟨rfl, c, h1, h2, h3⟩)
      · exact .inl ⟨rfl, ⟨h1, h2, hkB _ h3⟩, h4⟩
      · exact .inr ⟨rfl, c, h1, h2, hkB _ h3⟩
    · rintro e W2 ⟨⟨v, rfl⟩, (⟨hi, hl, hk⟩ | ⟨k, hkl, c, hi, hl, hk⟩)⟩
      · exact ⟨none, _, by have := run_endLoop (P := P) hl (by rw [hrec]; simp); rw [hrec] at this; exact this, hdone _ _ (Nat.le_refl _) (hI.putObj _ hi (by omega) hl rfl) ((World.putObj_heap_other (by omega)).trans hk)⟩
      · exact ⟨some c, _, by have := run_endLoop (P := P) hl (by rw [hrec]; simp); rw [hrec] at this; exact this, hstop _ c _ (Nat.le_refl _) (hIx.putObj _ hi (by omega) hl rfl) ((World.putObj_heap_other (by omega)).trans hk)⟩

/-- **THE LAW, of a loop that stands in the body of another such loop.** -/
theorem inner {l₀ : Nat} {r₀ : Loop} (hl₀ : w.heap[l₀]? = some (.loop r₀)) (hg : a.eval g = .func (.func gf) #[] lb) (eg : ∀ args w, (callFunc gf args).run P w = .ok (.enter gf args) w)
    (hseq : SeqI P gf lb encs K full w0) (hb0 : Below w0.heap.size w0 w) (hK : ∀ k, K k → k < w.heap.size) (hps : ∀ x, (encs x).size = ps.size)
    (I : Nat → World → Prop) (Ix : Code → World → Prop) (hI : OwnFrom w.heap.size I) (hIx : OwnFrom w.heap.size Ix) (h0 : I 0 w) (a₁ : α → Act)
    (hassign : ∀ (l : Nat) (x : α) (W : World) (Kc : Act → World → Prop), Kc (a₁ x) W →
      assign.wpIn (Fence.wide.inRound l) 9 P (Exit.then Kc (fun _ _ _ => False)) { tmps := (ps.zip (encs x)).foldl (fun t (p, v) => t.setIfInBounds p v) a.tmps, defers := [] } W)
    (hbody : ∀ (l k : Nat) (x : α) (W : World), w.heap.size ≤ l → (∃ r, W.heap[l]? = some (.loop r)) → I k W → full[k]? = some x → body.wpIn (Fence.wide.inRound l) 9 P (rpost w.heap.size K (I (k + 1)) Ix W) (a₁ x) W)
    (hdone : ∀ (W : World), I full.length W → Q .normal a W)
    (hstop : ∀ (c : Code) (W : World), Ix c W → c.wpIn (Fence.wide.inRound l₀) n P Q a W) :
    (Code.rangeFunc g ps assign body).wpIn (Fence.wide.inRound l₀) n P Q a w := by
  refine wpIn_rangeFunc ?_
  intro fn hfn
  obtain ⟨rec, hrec⟩ : ∃ rec : LoopState → Option Code → Loop, ∀ st pe, rec st pe = { state := st, pending := pe, fn, tmps := a.tmps, params := ps, assign, body, defers := r₀.defers } := ⟨_, fun _ _ => rfl⟩
  obtain ⟨W1, hW1⟩ : ∃ W1, w.alloc (.loop (rec .ready none)) = W1 := ⟨_, rfl⟩
  have hL1 : W1.heap[w.heap.size]? = some (.loop (rec .ready none)) := by rw [← hW1]; exact World.alloc_heap_new w _
  have hs1 : W1.heap.size = w.heap.size + 1 := by rw [← hW1]; simp
  have hI1 : I 0 W1 := by rw [← hW1]; exact hI.alloc _ h0
  have hb1 : Below w0.heap.size w0 W1 := by
    rw [← hW1]; exact hb0.trans (((Below.refl _ w).alloc (Nat.le_refl _) _).mono hb0.size)
  refine ⟨w.heap.size, [], W1, { target := .fn (.func gf) lb, args := #[.func (.yield w.heap.size) #[] #[]] }, W1, gf,
    #[.func (.yield w.heap.size) #[] #[]] ++ lb, W1, ?_, ?_, ?_, ?_, ?_, ?_⟩
  · rw [← hW1, hrec]; exact run_enterLoop_inner hl₀ _ _ _ _ _
  · simp only [resolve, hg]
    simp [go_sem]
  · intro _ _; trivial
  · simp [invoke, go_sem, eg]
  · intro h; simp [Fence.wide] at h
  · have hnw : ∀ {A : World} {row : Option Nat}, (∀ r, row = some r → W1.heap.size ≤ r ∧ ∃ o : Obj, A.heap[r]? = some o ∧ o.isCells = false) → (∀ r, row = some r → w.heap.size ≤ r ∧ ∃ o : Obj, A.heap[r]? = some o ∧ o.isCells = false) :=
      fun hr r e => ⟨by have := (hr r e).1; omega, (hr r e).2⟩
    have main : Calls P gf (#[.func (.yield w.heap.size) #[] #[]] ++ lb) W1 (rangePost (Fence.wide.inRound l₀) n P w.heap.size Q { a with defers := [] ++ a.defers }) := by
      refine callsIn_wide.1 ((hseq w.heap.size
        (fun k W => I k W ∧ W.heap[w.heap.size]? = some (.loop (rec .ready none)))
        (fun _ W => ∃ c, Ix c W ∧ W.heap[w.heap.size]? = some (.loop (rec .done (some c))))
        W1 hb1
        (fun s A B row hs hg' hr => ⟨hI s A B row hs.1 hg' (hnw hr), kept_obj hg' hr (by omega) hs.2⟩)
        (fun s A B row hs hg' hr => by
          obtain ⟨c, hc, hl⟩ := hs
          exact ⟨c, hIx c A B row hc hg' (hnw hr), kept_obj hg' hr (by omega) hl⟩)
        ?_ ⟨hI1, hL1⟩).mono ?_)
      · rintro k x W ⟨hi, hl⟩ hx
        refine (round_of (B := w.heap.size) hrec hI hIx (Nat.le_refl _) (fun h => by have := hK _ h; omega) (hps x) (a₁ x) hi hl (hassign _ x) (fun W2 hr2 hi2 => hbody _ k x W2 (Nat.le_refl _) hr2 hi2 hx)).mono ?_
        rintro e W' (⟨rfl, ⟨h1, h2, h3⟩, h4⟩ | ⟨rfl, c, h1, h2, h3⟩)
        · exact .inl ⟨rfl, ⟨h1, h2⟩, h4⟩
        · exact .inr ⟨rfl, c, h1, h2⟩
      · rintro e W2 ⟨⟨v, rfl⟩, (⟨hi, hl⟩ | ⟨k, hkl, c, hi, hl⟩)⟩
        · exact ⟨none, _, by have := run_endLoop (P := P) hl (by rw [hrec]; simp); rw [hrec] at this; exact this, hdone _ (hI.putObj _ hi (Nat.le_refl _) hl rfl)⟩
        · exact ⟨some c, _, by have := run_endLoop (P := P) hl (by rw [hrec]; simp); rw [hrec] at this; exact this, hstop c _ (hIx.putObj _ hi (Nat.le_refl _) hl rfl)⟩
    exact CallsIn.inRound (F := Fence.wide) l₀ (callsIn_wide.2 main)
end

/-! ### the return of a function that holds such loops: a mark for each outermost one that was entered -/
section
variable {n D D' : Nat} {fn : Func} {R : Ending → World → Prop} {a : Act} {W : World} {v : Value}
theorem ret0 (hd : a.defers = []) (hres : (results fn a.tmps).run P W = .ok v W) (hR : R (.returned v) W) : bodyPostM Fence.wide n P fn R .ret a W := by
  show LeavesInM Fence.wide n P fn a.tmps R a.defers .returning W
  rw [hd]; exact ⟨v, hres, hR⟩
theorem ret1 (hd : a.defers = [{ target := .collected D, args := #[] }]) (hK : W.heap[D]? = some (.deferred (some [])))
    (hres : (results fn a.tmps).run P (W.putObj D (.deferred none)) = .ok v (W.putObj D (.deferred none))) (hR : R (.returned v) (W.putObj D (.deferred none))) : bodyPostM Fence.wide n P fn R .ret a W := by
  show LeavesInM Fence.wide n P fn a.tmps R a.defers .returning W
  rw [hd]; exact ⟨by simp, .inl ⟨_, _, rfl, run_takeDeferred hK, v, hres, hR⟩⟩
theorem ret2 (hd : a.defers = [{ target := .collected D, args := #[] }, { target := .collected D', args := #[] }]) (hK : W.heap[D]? = some (.deferred (some []))) (hK' : W.heap[D']? = some (.deferred (some []))) (hne : D' ≠ D)
    (hres : (results fn a.tmps).run P ((W.putObj D (.deferred none)).putObj D' (.deferred none)) = .ok v ((W.putObj D (.deferred none)).putObj D' (.deferred none))) (hR : R (.returned v) ((W.putObj D (.deferred none)).putObj D' (.deferred none))) : bodyPostM Fence.wide n P fn R .ret a W := by
  show LeavesInM Fence.wide n P fn a.tmps R a.defers .returning W
  rw [hd]; exact ⟨by simp, .inl ⟨_, _, rfl, run_takeDeferred hK, by simp, .inl ⟨_, _, rfl, run_takeDeferred ((World.putObj_heap_other hne).trans hK'), v, hres, hR⟩⟩⟩
theorem putObj_cell {p : Addr} (o : Obj) (hp : p.block ≠ D) : (W.putObj D o).cell? p = W.cell? p := World.cell?_of_block (World.putObj_heap_other hp)
theorem putObj_below {w : World} {B : Nat} (h : Below B w W) (o : Obj) (hD : B ≤ D) : Below B w (W.putObj D o) :=
  h.trans ⟨rfl, rfl, rfl, by simp, fun k hk => World.putObj_heap_other (by omega)⟩
end
end Go.Proofs.YtodoglljjhdbeaaGreatDoor.Rng

/- hash.Several: the closure that it hands back is an iterator over the hashes, one by one. -/
namespace Go.Proofs.YtodoglljjhdbeaaGreatDoor.Hash
open Go.RowKit Go.Shelf Go.Proofs.YtodoglljjhdbeaaGreatDoor.Rng
attribute [local go_sem] Oper.semAt_some

/-- The hashes that Several hands on, with their numbers. -/
def several (seed : Int) (l : List UInt8) (many : Int) : List (Int × Int) := (List.range many.toNat).map fun (i : Nat) => ((i : Int), nthI seed l i)
def encIH (x : Int × Int) : Array Value := #[.int .i64 x.1, .int .u64 x.2]

theorem several_len (seed : Int) (l : List UInt8) (many : Int) : (several seed l many).length = many.toNat := by simp [several]
theorem several_at (seed : Int) (l : List UInt8) (many : Int) (k : Nat) (hk : k < many.toNat) : (several seed l many)[k]? = some ((k : Int), nthI seed l k) := by
  simp [several, hk]
theorem several_inv {seed : Int} {l : List UInt8} {many : Int} {k : Nat} {x : Int × Int} (h : (several seed l many)[k]? = some x) : k < many.toNat ∧ x = ((k : Int), nthI seed l k) := by
  have hk : k < many.toNat := by
    have := (List.getElem?_eq_some_iff.1 h).1
    rwa [several_len] at this
  rw [several_at _ _ _ _ hk] at h
  exact ⟨hk, by injection h with h; exact h.symm⟩

theorem of_nth (seed : Int) (s : ByteArray) (k : Nat) (hs : s.size ≤ maxLen) (w : World) :
    Calls Tryz.prog 93 #[.int .u64 (IntKind.u64.wrap (seed + (k : Int))), .string s] w fun e w' => e = .returned (.int .u64 (nthI seed s.data.toList k)) ∧ w = w' :=
  of_any _ s (wrap_range _).1 (wrap_range _).2 hs w

set_option maxRecDepth 100000 in
set_option maxHeartbeats 1000000 in
theorem several_seq (seed many : Int) (s : ByteArray) (hm : many ≤ 9223372036854775807) (hs : s.size ≤ maxLen) (B0 B1 B2 : Nat) (w : World)
    (hb0 : B0 < w.heap.size) (hb1 : B1 < w.heap.size) (hb2 : B2 < w.heap.size)
    (c0 : w.cell? ⟨B0, 0, none⟩ = some (.int .u64 seed)) (c1 : w.cell? ⟨B1, 0, none⟩ = some (.string s)) (c2 : w.cell? ⟨B2, 0, none⟩ = some (.int .i64 many)) :
    SeqI Tryz.prog 92 #[.pointer (some ⟨B2, 0, none⟩), .pointer (some ⟨B0, 0, none⟩), .pointer (some ⟨B1, 0, none⟩)] encIH (fun k => k = B0 ∨ k = B1 ∨ k = B2) (several seed s.data.toList many) w := by
  intro l J Jx W hW hJ hJx hY hj
  have e0 := (hW.cell (p := ⟨B0, 0, none⟩) hb0).trans c0
  have e1 := (hW.cell (p := ⟨B1, 0, none⟩) hb1).trans c1
  have e2 := (hW.cell (p := ⟨B2, 0, none⟩) hb2).trans c2
  clear c0 c1 c2 hW hJ hJx
  refine callsIn_of_wp Tryz.func92 rfl trivial ?_ rfl
  simp only [Tryz.ntmps92, List.size_toArray, List.length_cons, List.length_nil, Nat.reduceAdd, Nat.reduceSub, Array.replicate_succ, Array.replicate_zero, List.push_toArray, List.append_toArray, List.nil_append, List.cons_append]
  gi_wp2
  gi_loopw [5, 7] (fun _ p wr => ∃ k : Nat, p = .int .i64 k ∧ (k = 0 ∨ (k : Int) ≤ many) ∧ J k wr ∧ wr.cell? ⟨B0, 0, none⟩ = some (.int .u64 seed) ∧ wr.cell? ⟨B1, 0, none⟩ = some (.string s))
    (fun _ p _ => many.toNat - (intOf p).toNat)
  case atStart => exact ⟨0, rfl, .inl rfl, hj, e0, e1⟩
  case round =>
    obtain ⟨k, rfl, hk, hJk, d0, d1⟩ := hrel
    by_cases hlt : (k : Int) < many
    · obtain ⟨fn, tmps, assign, body, hy, hR⟩ := hY k _ wr hJk (several_at _ _ _ _ (by omega))
      simp only [encIH] at hy
      clear hY
      gi_wp2_with (refine ⟨trivial, ?_⟩; gi_at_call 93; refine (callsIn_wide.2 (of_nth seed s k hs wr)).mono ?_; rintro e w' ⟨rfl, rfl⟩)
      refine (any_depth hR).mono ?_
      rintro e W' (⟨rfl, hJ', hk'⟩ | ⟨rfl, hJx'⟩)
      · have d0' := (World.cell?_of_block (a := ⟨B0, 0, none⟩) (hk' B0 (.inl rfl))).trans d0
        have d1' := (World.cell?_of_block (a := ⟨B1, 0, none⟩) (hk' B1 (.inr (.inl rfl)))).trans d1
        clear hJk d0 d1 hk' hR hy
        gi_wp2
        go_roundw
        case rel => exact ⟨k + 1, by go_num, .inr (by omega), hJ', d0', d1'⟩
        case measure => simp [intOf]; omega
      · gi_wp2
        refine bodyPost_ret (results_none rfl _ _ _) rfl ?_
        exact ⟨⟨_, rfl⟩, .inr ⟨k + 1, by rw [several_len]; omega, hJx'⟩⟩
    · gi_wp2
      go_end0
      exact ⟨⟨_, rfl⟩, .inl (by rw [several_len]; have : k = many.toNat := by omega
                                rw [← this]; exact hJk)⟩

/-- The world behind a call of Several: three boxes. -/
def severalWorld (w : World) (seed : Int) (s : ByteArray) (many : Int) : World :=
  ((w.alloc (.cells #[.int .u64 seed] 25)).alloc (.cells #[.string s] 9)).alloc (.cells #[.int .i64 many] 3)
def severalFree (B : Nat) : Array Value := #[.pointer (some ⟨B + 2, 0, none⟩), .pointer (some ⟨B, 0, none⟩), .pointer (some ⟨B + 1, 0, none⟩)]

theorem several_any (seed many : Int) (s : ByteArray) (w : World) :
    Calls Tryz.prog 71 #[.int .u64 seed, .string s, .int .i64 many] w fun e w' =>
      e = .returned (.func (.func 92) #[] (severalFree w.heap.size)) ∧ w' = severalWorld w seed s many := by
  go_enter Tryz.func71, Tryz.ntmps71
  go_wp2
  go_ret
  exact ⟨rfl, rfl⟩

theorem severalWorld_below (w : World) (seed many : Int) (s : ByteArray) : Below w.heap.size w (severalWorld w seed s many) :=
  (((Below.refl _ w).alloc (Nat.le_refl _) _).alloc (by simp) _).alloc (by simp; omega) _
theorem severalWorld_size (w : World) (seed many : Int) (s : ByteArray) : (severalWorld w seed s many).heap.size = w.heap.size + 3 := by
  simp [severalWorld]

/-- What a range over Several(..) asks of the iterator. -/
theorem several_made (seed many : Int) (s : ByteArray) (hm : many ≤ 9223372036854775807) (hs : s.size ≤ maxLen) (w : World) :
    SeqI Tryz.prog 92 (severalFree w.heap.size) encIH (fun k => k = w.heap.size ∨ k = w.heap.size + 1 ∨ k = w.heap.size + 2) (several seed s.data.toList many) (severalWorld w seed s many) := by
  refine several_seq seed many s hm hs w.heap.size (w.heap.size + 1) (w.heap.size + 2) _ ?_ ?_ ?_ ?_ ?_ ?_
  · rw [severalWorld_size]; omega
  · rw [severalWorld_size]; omega
  · rw [severalWorld_size]; omega
  · simp [severalWorld]; go_simp
  · simp [severalWorld]; go_simp
  · simp [severalWorld]; go_simp

/-- Several, as a caller wants it: an iterator over the hashes, in a world that has grown alone. -/
theorem several_gives (seed many : Int) (s : ByteArray) (hm : many ≤ 9223372036854775807) (hs : s.size ≤ maxLen) (w : World) :
    Calls Tryz.prog 71 #[.int .u64 seed, .string s, .int .i64 many] w fun e w' =>
      ∃ (lb : Array Value) (K : Nat → Prop), e = .returned (.func (.func 92) #[] lb) ∧ SeqI Tryz.prog 92 lb encIH K (several seed s.data.toList many) w' ∧
        Below w.heap.size w w' ∧ (∀ k, K k → w.heap.size ≤ k ∧ k < w'.heap.size) :=
  (several_any seed many s w).mono fun e w' ⟨he, hw⟩ => by
    subst hw
    exact ⟨_, _, he, several_made seed many s hm hs w, severalWorld_below w seed many s, fun k hk => by rw [severalWorld_size]; omega⟩
theorem enters (args : Array Value) (w : World) : (callFunc 92 args).run Tryz.prog w = .ok (.enter 92 args) w := enters_of Tryz.func92 (by kernel_rfl) rfl args w
end Go.Proofs.YtodoglljjhdbeaaGreatDoor.Hash

/- A region that draws its order in a round's body: where all but the last operations only read, one walk; the wide fence, inside a round. -/
namespace Go.Proofs.YtodoglljjhdbeaaGreatDoor.StillIn
open Go

section
variable {P : Program} {ops : Array Oper} {md : Region.Mode} {w : World} {n l0 : Nat} {Q : Exit → Act → World → Prop}

def noDefer (l : List Oper) : Bool := l.all fun o => match o.op with | .defer _ => false | _ => true
theorem noDefer_spec {l : List Oper} (h : noDefer l = true) {o : Oper} (ho : o ∈ l) : ∀ c, o.op ≠ .defer c := fun c e => by
  have := List.all_eq_true.1 h o ho
  simp [e] at this

theorem wpOpIn_of_stOp {i : Nat} {a : Act} {K : Act → Prop} {K' : Act → World → Prop} (hd : ∀ (j : Nat) (o : Oper) c, ops[j]? = some o → o.op ≠ .defer c) (h : ∀ a, K a → K' a w) (hh : stOp P ops w i K a) :
    wpOpIn (Fence.wide.inRound l0) n P ops Q i K' a w := by
  unfold stOp at hh
  unfold wpOpIn
  split
  · rename_i ho; simp only [ho] at hh; exact h _ hh
  · rename_i o ho
    simp only [ho] at hh
    split
    · rename_i hw
      simp only [hw, if_true] at hh
      unfold Oper.still at hh
      unfold Oper.wpIn
      refine ⟨fun _ _ => trivial, ?_⟩
      rw [show (Fence.wide.inRound l0).round = some l0 from rfl, Oper.semAt_some _ _ _ (fun c => hd i o c ho)]
      generalize (execOp a.eval o).run P w = r at *
      cases r with
      | ok x w' =>
        cases x <;> simp only [Oper.stillUpon] at hh
        case value v => obtain ⟨rfl, hh⟩ := hh; exact h _ hh
        case skip => obtain ⟨rfl, hh⟩ := hh; exact h _ hh
        case enter f args =>
          obtain ⟨rfl, v, hc, hh⟩ := hh
          refine ⟨fun e => by simp [Fence.wide] at e, CallsIn.inRound l0 (callsIn_wide.2 (hc.mono ?_))⟩
          rintro e w'' ⟨rfl, rfl⟩
          exact h _ hh
      | halt x w' => simp only [Oper.stillUpon] at hh
    · rename_i hw; simp only [hw] at hh; exact ⟨fun _ _ => trivial, h _ hh⟩

theorem wpAnyIn_of_head {m g : Nat} {L : Array Bool → Act → Prop} (hd : ∀ (j : Nat) (o : Oper) c, ops[j]? = some o → o.op ≠ .defer c) (hL : ∀ listed a, L listed a → wpAnyIn (Fence.wide.inRound l0) n P md ops Q g listed a w) :
    ∀ (f : Nat) (listed : Array Bool) (a : Act), wpAnyL P md ops w m L f listed a → wpAnyIn (Fence.wide.inRound l0) n P md ops Q (f + g) listed a w
  | 0, listed, a, h => by rw [Nat.zero_add]; exact hL _ _ h
  | f + 1, listed, a, h => by
    rw [show f + 1 + g = (f + g) + 1 by omega]
    exact ⟨fun h0 => absurd h0 h.1, fun i hi => wpOpIn_of_stOp hd (fun a' h' => wpAnyIn_of_head hd hL f _ a' h') (h.2 i hi).2⟩

theorem wpAnyIn_of_seq {F : Fence} : ∀ (l : List Oper) (k : Nat) (listed : Array Bool) (a : Act) (w : World), (∀ j, l[j]? = ops[k + j]?) →
    Region.seqB md ops l.length k listed = true → wpListIn F n P ops Q l a w → wpAnyIn F n P md ops Q l.length listed a w
  | [], _, _, _, _, _, hB, h => ⟨by simpa [Region.seqB] using hB, h⟩
  | o :: l, k, listed, a, w, hl, hB, h => by
    have h0 : ops[k]? = some o := by simpa using (hl 0).symm
    simp only [List.length_cons, Region.seqB, Bool.and_eq_true, decide_eq_true_eq] at hB
    refine ⟨fun h1 => (by rw [hB.1] at h1; cases h1), fun i hi => ?_⟩
    rw [hB.1] at hi
    have hik : i = k := by simpa using hi
    subst hik
    have hw : wpOpIn F n P ops Q i (wpListIn F n P ops Q l) a w := by unfold wpOpIn; simp only [h0]; exact h
    exact wpOpIn_mono (fun a' w' h' => wpAnyIn_of_seq l (i + 1) _ a' w' (fun j => by have := hl (j + 1); simpa [Nat.add_assoc, Nat.add_comm 1 j] using this) hB.2 h') hw

/-- All but the last operations only read: they are gone through in their order, then the last ones. -/
theorem wpIn_region_still_tail {id : Nat} {a : Act} {l : List Oper} (m : Nat) (hm : P.follows .mixedOrders = true) (hB : (Region.lexTailB .any l.toArray m && noDefer l) = true)
    (h : wpStill P l.toArray { w with drawn := w.drawn + 1 } (fun a' => wpListIn (Fence.wide.inRound l0) n P l.toArray Q (l.drop m) a' { w with drawn := w.drawn + 1 }) (l.take m) a) : (Code.region id l.toArray true).wpIn (Fence.wide.inRound l0) n P Q a w := by
  rw [Bool.and_eq_true] at hB
  obtain ⟨hB, hnd⟩ := hB
  have hd : ∀ (j : Nat) (o : Oper) c, l.toArray[j]? = some o → o.op ≠ .defer c := fun j o c hj => noDefer_spec hnd (List.mem_of_getElem? (by simpa using hj)) c
  simp only [Region.lexTailB, Bool.and_eq_true, decide_eq_true_eq] at hB
  obtain ⟨⟨⟨⟨hsel, hn⟩, hs⟩, hc⟩, hlex⟩ := hB
  have hn' : m < l.length := by simpa using hn
  have htl : (l.take m).length = m := by simp; omega
  have hdl : (l.drop m).length = l.toArray.size - m := by simp
  have inv0 : HeadInv .any l.toArray m (Array.replicate l.toArray.size false) :=
    ⟨by simp, fun j oj _ hl => (by rw [getD_replicate_false] at hl; cases hl), fun t _ ht => getD_in (by simpa using ht) (getD_replicate_false _ _)⟩
  have H := wpAnyL_lex (md := .any) (g := l.toArray.size - m) hsel hs hc hn (l.take m) 0 _ a (fun j hj => by
    have hj' : j < m := by rw [htl] at hj; exact hj
    simp [hj']) (by simpa using htl) inv0 (by rw [htl]; exact hlex) h
  refine wpIn_region_any hm ?_
  have := wpAnyIn_of_head (n := n) (l0 := l0) (Q := Q) (g := l.toArray.size - m) hd (fun listed a' hL => by
    have := wpAnyIn_of_seq (n := n) (P := P) (Q := Q) (F := Fence.wide.inRound l0) (md := .any) (l.drop m) m listed a' { w with drawn := w.drawn + 1 } (fun j => by simp [List.getElem?_drop]) (by rw [hdl]; exact hL.1) hL.2
    rwa [hdl] at this) _ _ _ H
  rw [htl, show m + (l.toArray.size - m) = l.toArray.size by omega] at this
  exact this
end
end Go.Proofs.YtodoglljjhdbeaaGreatDoor.StillIn

/- Only, in the words of a loop over a function: invariants, what stays. -/
namespace Go.Proofs.YtodoglljjhdbeaaGreatDoor.Mem
open Go Go.RowKit Go.Proofs.YtodoglljjhdbeaaGreatDoor.Rng
theorem own_only {β : Type} {F : Nat → Prop} {w : World} {S : Nat} (hS : w.heap.size ≤ S) : OwnFrom S (fun (_ : β) W => Only F w W) := fun _ _ _ _ hs hg hr =>
  hs.grown hg fun g e => .inr (by have := (hr g e).1; omega)
theorem Only.keepsFrom {F : Nat → Prop} {w w' : World} (h : Only F w w') {B : Nat} (hF : ∀ k, F k → k < B) : KeepsFrom B w w' :=
  ⟨h.size, fun k _ hB hk _ => (h.same k (Array.getElem?_eq_some_iff.1 hk).1 (fun e => by have := hF k e; omega)).trans hk⟩
theorem Only.keep {F K : Nat → Prop} {w w' : World} (h : Only F w w') (hK : ∀ k, K k → k < w.heap.size ∧ ¬ F k) : Keep K w w' := fun k hk => h.same k (hK k hk).1 (hK k hk).2
end Go.Proofs.YtodoglljjhdbeaaGreatDoor.Mem

/- The walks over layer 5: Add, Count, Copy. -/
namespace Go.Proofs.YtodoglljjhdbeaaGreatDoor.Sketch
open Go Go.RowKit Go.Shelf Go.Proofs.YtodoglljjhdbeaaGreatDoor.Mem Go.Proofs.YtodoglljjhdbeaaGreatDoor.Rng Go.Proofs.YtodoglljjhdbeaaGreatDoor.StillIn
attribute [local go_sem] Oper.semAt_some

def AddPost (w : World) (b : Nat) (k : St) (s : List UInt8) (e : Ending) (w' : World) : Prop := e = .returned (.bool (k.add s).1) ∧ At w' b (k.add s).2 ∧ Only (fun j => j = b) w w'
/-- The call's own blocks, and the sketch: behind so many rows. -/
def blocks (B b : Nat) (k : St) (s : List UInt8) (i : Nat) : List (Nat × Obj) := [(b, .cells (cells { k with c := ups k.seed s k.c i }) 131 (0, 0)), Mem.box B 108 (.pointer (some ⟨b, 0, none⟩))]
theorem blocks_cells (B b : Nat) (k : St) (s : List UInt8) (i : Nat) : ∀ p ∈ blocks B b k s i, p.2.isCells = true := by
  intro p hp
  simp only [blocks, List.mem_cons, List.not_mem_nil, or_false] at hp
  rcases hp with rfl | rfl <;> rfl
theorem Ok.ups {k : St} (h : Ok k) (s : List UInt8) (i : Nat) : Ok { k with c := ups k.seed s k.c i } := ⟨fun _ => ups_15 h.c15 _ _ _ _, h.a0, h.a1, h.s0, h.s1⟩

set_option maxRecDepth 100000 in
set_option maxHeartbeats 2000000 in
theorem add_any {w : World} {b : Nat} {k : St} (h : At w b k) (hk : Ok k) (s : ByteArray) (hs : s.size ≤ maxLen) :
    Calls Tryz.prog 50 #[.pointer (some ⟨b, 0, none⟩), .string s] w (AddPost w b k s.data.toList) := by
  have hbl : b < w.heap.size := (Array.getElem?_eq_some_iff.1 h).1
  have c0 : (w.alloc (.cells #[.pointer (some ⟨b, 0, none⟩)] 108)).cell? ⟨b, 0, none⟩ = some (.int .u64 k.seed) := (Mem.row_cell (Mem.new_later h _) 0).trans (cells_seed k)
  refine (callsIn_wide (n := 9)).1 (callsIn_of_wp_marks Tryz.func50 rfl trivial ?_ rfl)
  simp only [Tryz.ntmps50, List.size_toArray, List.length_cons, List.length_nil, Nat.reduceAdd, Nat.reduceSub, Array.replicate_succ, Array.replicate_zero, List.push_toArray, List.append_toArray, List.nil_append, List.cons_append]
  gi_wp2_with fail
  refine ⟨trivial, ?_⟩
  refine (callsIn_wide.2 (Hash.several_gives k.seed 4 s (by omega) hs _)).mono ?_
  rintro e w2 ⟨lb, K, rfl, hseq, hbel, hK⟩
  have hf : Fix w2 (blocks w.heap.size b k s.data.toList 0) :=
    (Fix.cons (Mem.new_later h _) (Fix.cons (Mem.new_block w _) (Fix.nil _))).below hbel (Nat.le_refl _)
  have ho : Only (fun j => j = b) w w2 := Only.of_below (Mem.tr (Mem.al (Below.refl _ _) _) hbel) fun k h1 h2 => by omega
  have hKw : ∀ j, K j → w.heap.size < j := fun j hj => by have := (hK j hj).1; simp at this; omega
  have hs2 : w.heap.size < w2.heap.size := by have := hbel.size; simp at this; omega
  clear hbel c0 h
  gi_wp2_with fail
  refine outer rfl (Hash.enters) hseq (Below.refl _ _) (fun k hk => (hK k hk).2) (fun _ => rfl)
    (fun i W => (Only (fun j => j = b) w W ∧ w2.heap.size ≤ W.heap.size) ∧ Fix W (blocks w.heap.size b k s.data.toList i)) (fun _ _ => False)
    (((own_only (by omega)).and (own_size _ _)).and (own_fix _ _ (blocks_cells _ _ _ _))) (fun _ _ _ _ h _ _ => h) ⟨⟨ho, Nat.le_refl _⟩, hf⟩ ?a1 ?assign ?body ?done ?stop
  case assign =>
    intro l x W Kc hKc
    simp only [Hash.encIH]
    gi_wp2
    exact hKc
  case stop => exact fun D c W _ h _ => h.elim
  case body =>
    rintro l i x W hl _ ⟨⟨hO, hZ⟩, hF⟩ hx
    obtain ⟨hi, rfl⟩ := Hash.several_inv hx
    have c2 := Mem.box_cell hF.tail.head
    have hr := raise_any (w := W.drew) hF.head (hk.ups s.data.toList i) (row := i) (at_ := col k.seed s.data.toList i) (by omega) (col_lt _ _ _)
    have hbel := fun w => Hash.below_any (Hash.nthI k.seed s.data.toList i) 64 (Hash.nthI_range _ _ _).1 (Hash.nthI_range _ _ _).2 (by omega) w
    rw [col_int] at hbel
    have HF := Lib.hid (And.intro hF hO)
    have HX := Lib.hid (And.intro hK hKw)
    clear hF hO hx hf ho hseq hK hKw hl
    obtain ⟨cc, hcc⟩ : ∃ cc, col k.seed s.data.toList i = cc := ⟨_, rfl⟩
    rw [hcc] at hbel hr
    have HC := Lib.hid hcc
    clear hcc
    gi_wp2_with fail
    refine wpIn_region_still_tail 4 (by kernel_rfl) (by kernel_rfl) ?_
    simp only [List.take_succ_cons, List.take_zero, List.drop_succ_cons, List.drop_zero]
    repeat (first | still_step | still_call ((hbel _).mono fun _ _ ⟨h, e⟩ => ⟨h, e.symm⟩))
    refine wpStill_nil ?_
    gi_wp2_with (refine ⟨trivial, ?_⟩; gi_at_call 73; refine (CallsIn.inRound l (callsIn_wide.2 hr)).mono ?_; rintro e W' ⟨rfl, hA', hO'⟩)
    have hO1 : Only (fun j => j = b) W W' := ⟨hO'.os, hO'.tape, hO'.output, hO'.size, hO'.same⟩
    refine ⟨hO1.keepsFrom (fun j e => by omega), hO1.keep (fun j hj => ⟨by have := (HX.out.1 j hj).2; omega, by have := HX.out.2 j hj; omega⟩), ⟨HF.out.2.trans hO1 (fun _ e => .inl e), Nat.le_trans hZ hO1.size⟩, ?_⟩
    refine Fix.cons ?_ (Fix.cons ((hO1.same _ (HF.out.1.lt (p := Mem.box w.heap.size 108 (.pointer (some ⟨b, 0, none⟩))) (by simp [blocks])) (by simp; omega)).trans HF.out.1.tail.head) (Fix.nil _))
    rw [← HC.out] at hA'
    exact hA'
  case done =>
    rintro D W hD ⟨⟨hO, hZ⟩, hF⟩ hKD
    rw [Hash.several_len] at hF
    have hF' : Fix W (blocks w.heap.size b k s.data.toList 4) := hF
    have c2 := Mem.box_cell hF'.tail.head
    have ca := Mem.row_cell hF'.head 129
    have fa := Mem.row_free hF'.head 129
    rw [cells_age] at ca
    simp only at ca
    have hA1 := Mem.row_set hF'.head 129 (.int .i64 (k.age + 1))
    rw [cells_set_age] at hA1
    simp only at hA1
    have hlt := hF'.lt (p := Mem.box w.heap.size 108 (.pointer (some ⟨b, 0, none⟩))) (by simp [blocks])
    have hc2 : (W.setCell ⟨b, 129, none⟩ (.int .i64 (k.age + 1))).cell? ⟨w.heap.size, 0, none⟩ = some (.pointer (some ⟨b, 0, none⟩)) := (World.cell?_setCell_other _ _ _ _ (by simp)).trans c2
    have hw1 : IntKind.i64.wrap (k.age + 1) = k.age + 1 := by have := hk.a0; have := hk.a1; rw [IntKind.wrap_i64]; omega
    have HF := Lib.hid (And.intro hO (And.intro hA1 hKD))
    obtain ⟨a0, a1⟩ : 0 ≤ k.age ∧ k.age < 640 := ⟨hk.a0, hk.a1⟩
    have hhalf := halve_any (w := W.setCell ⟨b, 129, none⟩ (.int .i64 (k.age + 1))) hA1 (fun j => ups_15 hk.c15 k.seed s.data.toList 4 j)
    clear hf ho hseq hK hKw hF hO hKD hA1
    by_cases hag : k.age + 1 < 640
    · have hadd : k.add s.data.toList = (false, { k with c := ups k.seed s.data.toList k.c 4, age := k.age + 1 }) := by unfold St.add; rw [if_pos hag]
      have HD := Lib.hid hadd
      clear hadd
      gi_wp2
      refine ret1 rfl (v := .bool false) ?_ ?_ ?_
      · exact (Below.heap_setCell _ _ _ _ (by simp; omega)).trans HF.out.2.2
      · simp [results, Tryz.results50, go_sem]
      · unfold AddPost
        rw [HD.out]
        exact ⟨rfl, (World.putObj_heap_other (by omega)).trans HF.out.2.1, (HF.out.1.setCell (.inl rfl) _).putObj (.inr (by omega)) _⟩
    · have hadd : k.add s.data.toList = (true, { k with c := half (ups k.seed s.data.toList k.c 4), age := 320 }) := by unfold St.add; rw [if_neg hag]
      have HD := Lib.hid hadd
      clear hadd
      gi_wp2_with (refine ⟨trivial, ?_⟩; gi_at_call 74; refine (callsIn_wide.2 hhalf).mono ?_; rintro e W' ⟨rfl, hA', hO'⟩)
      refine ret1 rfl (v := .bool true) ?_ ?_ ?_
      · exact (hO'.same D (by simp; exact (Array.getElem?_eq_some_iff.1 HF.out.2.2).1) (by omega)).trans ((Below.heap_setCell _ _ _ _ (by simp; omega)).trans HF.out.2.2)
      · simp [results, Tryz.results50, go_sem]
      · unfold AddPost
        rw [HD.out]
        exact ⟨rfl, (World.putObj_heap_other (by omega)).trans hA', ((HF.out.1.setCell (.inl rfl) _).trans hO' (fun _ e => .inl e)).putObj (.inr (by omega)) _⟩
/-- Count's own blocks, and the sketch. -/
def blocksC (B b : Nat) (k : St) (s : List UInt8) (i : Nat) : List (Nat × Obj) := [(b, .cells (cells k) 131 (0, 0)), Mem.box B 108 (.pointer (some ⟨b, 0, none⟩)), Mem.box (B + 1) 3 (.int .i64 (cnt k.seed s k.c i : Nat))]
theorem blocksC_cells (B b : Nat) (k : St) (s : List UInt8) (i : Nat) : ∀ p ∈ blocksC B b k s i, p.2.isCells = true := by
  intro p hp
  simp only [blocksC, List.mem_cons, List.not_mem_nil, or_false] at hp
  rcases hp with rfl | rfl | rfl <;> rfl
theorem min_nat (a b : Nat) : (if (b : Int) < (a : Int) then (b : Int) else (a : Int)) = ((min a b : Nat) : Int) := by
  by_cases h : b < a
  · rw [if_pos (by omega)]; omega
  · rw [if_neg (by omega)]; omega
set_option maxRecDepth 100000 in
set_option maxHeartbeats 2000000 in
theorem count_any {w : World} {b : Nat} {k : St} (h : At w b k) (hk : Ok k) (s : ByteArray) (hs : s.size ≤ maxLen) :
    Calls Tryz.prog 117 #[.pointer (some ⟨b, 0, none⟩), .string s] w fun e w' => e = .returned (.int .i64 (k.count s.data.toList : Nat)) ∧ Below w.heap.size w w' := by
  have hbl : b < w.heap.size := (Array.getElem?_eq_some_iff.1 h).1
  have c0 : ((w.alloc (.cells #[.pointer (some ⟨b, 0, none⟩)] 108)).alloc (.cells #[.int .i64 15] 3)).cell? ⟨b, 0, none⟩ = some (.int .u64 k.seed) :=
    (Mem.row_cell (Mem.new_later (Mem.new_later h _) _) 0).trans (cells_seed k)
  refine (callsIn_wide (n := 9)).1 (callsIn_of_wp_marks Tryz.func117 rfl trivial ?_ rfl)
  simp only [Tryz.ntmps117, List.size_toArray, List.length_cons, List.length_nil, Nat.reduceAdd, Nat.reduceSub, Array.replicate_succ, Array.replicate_zero, List.push_toArray, List.append_toArray, List.nil_append, List.cons_append]
  gi_wp2_with fail
  refine ⟨trivial, ?_⟩
  refine (callsIn_wide.2 (Hash.several_gives k.seed 4 s (by omega) hs _)).mono ?_
  rintro e w2 ⟨lb, K, rfl, hseq, hbel, hK⟩
  have hf : Fix w2 (blocksC w.heap.size b k s.data.toList 0) :=
    (Fix.cons (Mem.new_later (Mem.new_later h _) _) (Fix.cons (Mem.new_later (Mem.new_block w _) _) (Fix.cons (Mem.new_block2 w _ _) (Fix.nil _)))).below hbel (Nat.le_refl _)
  have ho : Below w.heap.size w w2 := Mem.tr (Mem.al (Mem.al (Below.refl _ _) _) _) hbel
  have hKw : ∀ j, K j → w.heap.size + 1 < j := fun j hj => by have := (hK j hj).1; simp at this; omega
  have hs2 : w.heap.size + 1 < w2.heap.size := by have := hbel.size; simp at this; omega
  clear hbel c0 h
  gi_wp2_with fail
  refine outer rfl (Hash.enters) hseq (Below.refl _ _) (fun k hk => (hK k hk).2) (fun _ => rfl)
    (fun i W => (Below w.heap.size w W ∧ w2.heap.size ≤ W.heap.size) ∧ Fix W (blocksC w.heap.size b k s.data.toList i)) (fun _ _ => False)
    (((ownFrom_below (Nat.le_refl _) (by omega)).and (own_size _ _)).and (own_fix _ _ (blocksC_cells _ _ _ _))) (fun _ _ _ _ h _ _ => h) ⟨⟨ho, Nat.le_refl _⟩, hf⟩ ?a1 ?assign ?body ?done ?stop
  case assign =>
    intro l x W Kc hKc
    simp only [Hash.encIH]
    gi_wp2
    exact hKc
  case stop => exact fun D c W _ h _ => h.elim
  case body =>
    rintro l i x W hl _ ⟨⟨hO, hZ⟩, hF⟩ hx
    obtain ⟨hi, rfl⟩ := Hash.several_inv hx
    have c2 := Mem.box_cell hF.tail.head
    have c3 := Mem.box_cell hF.tail.tail.head
    have f3 := Mem.box_free hF.tail.tail.head
    have hr := get_any (w := W.drew) hF.head hk (row := i) (at_ := col k.seed s.data.toList i) (by omega) (col_lt _ _ _)
    have hbel := fun w => Hash.below_any (Hash.nthI k.seed s.data.toList i) 64 (Hash.nthI_range _ _ _).1 (Hash.nthI_range _ _ _).2 (by omega) w
    rw [col_int] at hbel
    have HF := Lib.hid (And.intro hF hO)
    have HX := Lib.hid (And.intro hK hKw)
    have hnext : cnt k.seed s.data.toList k.c (i + 1) = min (cnt k.seed s.data.toList k.c i) (k.c (i * 64 + col k.seed s.data.toList i)) := rfl
    obtain ⟨cc, hcc⟩ : ∃ cc, col k.seed s.data.toList i = cc := ⟨_, rfl⟩
    rw [hcc] at hbel hr hnext
    obtain ⟨x, hx0⟩ : ∃ x, cnt k.seed s.data.toList k.c i = x := ⟨_, rfl⟩
    obtain ⟨y, hy0⟩ : ∃ y, k.c (i * 64 + cc) = y := ⟨_, rfl⟩
    rw [hx0] at c3 hnext
    rw [hy0] at hr hnext
    have HN := Lib.hid hnext
    clear hF hO hx hf ho hseq hK hKw hl hcc hx0 hy0 hnext
    gi_wp2_with fail
    refine wpIn_region_still_tail 7 (by kernel_rfl) (by kernel_rfl) ?_
    simp only [List.take_succ_cons, List.take_zero, List.drop_succ_cons, List.drop_zero]
    repeat (first | still_step | still_call ((hbel _).mono fun _ _ ⟨h, e⟩ => ⟨h, e.symm⟩) | still_call (Calls.mono hr fun _ _ ⟨h, e⟩ => ⟨h, e.symm⟩))
    have hgo : ∀ (v : Int) (A : Act) W', v = ((min x y : Nat) : Int) → W' = (W.setCell ⟨w.heap.size + 1, 0, none⟩ (.int .i64 v)).drew →
        rpost w2.heap.size K (fun W => (Below w.heap.size w W ∧ w2.heap.size ≤ W.heap.size) ∧ Fix W (blocksC w.heap.size b k s.data.toList (i + 1))) (fun _ _ => False) W .normal A W' := fun v A W' hv e => by
      subst e
      have hset : ∀ j, j ≠ w.heap.size + 1 → (W.setCell ⟨w.heap.size + 1, 0, none⟩ (.int .i64 v)).heap[j]? = W.heap[j]? := fun j hj => Below.heap_setCell _ _ _ _ hj
      have hkf := (KeepsOthers.setCell W ⟨w.heap.size + 1, 0, none⟩ (.int .i64 v)).from w2.heap.size
      refine ⟨⟨hkf.size, hkf.same⟩, fun j hj => hset j (by have := HX.out.2 j hj; omega), ⟨(HF.out.2.setCell (p := ⟨w.heap.size + 1, 0, none⟩) (by simp) _).drew, ?_⟩, ?_⟩
      · show w2.heap.size ≤ (W.setCell ⟨w.heap.size + 1, 0, none⟩ (.int .i64 v)).heap.size
        simpa [World.setCell] using hZ
      · refine Fix.cons ((hset _ (by simp; omega)).trans HF.out.1.head) (Fix.cons ((hset _ (by simp)).trans HF.out.1.tail.head) (Fix.cons ?_ (Fix.nil _)))
        rw [HN.out, ← hv]
        exact Mem.box_set HF.out.1.tail.tail.head _
    have HG := Lib.hid hgo
    clear hgo
    refine wpStill_nil ?_
    gi_wp2
    · rename_i hlt
      exact HG.out _ _ _ (by omega) rfl
    · rename_i hlt
      exact HG.out _ _ _ (by omega) rfl
  case done =>
    rintro D W hD ⟨⟨hO, hZ⟩, hF⟩ hKD
    rw [Hash.several_len] at hF
    have hF' : Fix W (blocksC w.heap.size b k s.data.toList 4) := hF
    have c3 := Mem.box_cell hF'.tail.tail.head
    have HF := Lib.hid (And.intro hO hKD)
    clear hf ho hseq hK hKw hF hO hKD hF'
    gi_wp2
    refine ret1 rfl (v := .int .i64 (k.count s.data.toList : Nat)) HF.out.2 ?_ ⟨rfl, putObj_below HF.out.1 _ (by omega)⟩
    simp [results, Tryz.results117, go_sem]
    rfl
end Go.Proofs.YtodoglljjhdbeaaGreatDoor.Sketch

/- The walks over layer 5: Copy. -/
namespace Go.Proofs.YtodoglljjhdbeaaGreatDoor.Sketch
open Go Go.RowKit Go.Proofs.YtodoglljjhdbeaaGreatDoor.Mem
theorem cells_size (k : St) : (cells k).size = 130 := by unfold cells; simp
theorem cells_one (k : St) : (cells k).all (·.oneCell') = true := by
  unfold cells
  rw [List.all_toArray]
  simp [Value.oneCell']
theorem store_sketch (w : World) (k : St) : (storeCells ⟨w.heap.size, 0, none⟩ (cells k).toList 0).run Tryz.prog (w.alloc (.cells (cells (new 0)) 131)) = .ok () (w.alloc (.cells (cells k) 131)) :=
  run_storeCells_new w 131 _ _ (by rw [cells_size]; kernel_rfl) (by rw [cells_size, cells_size]) (cells_one k)
theorem sketch_size (k : St) : (Tryz.prog.info? 131).map (·.size) = some (cells k).size := by rw [cells_size]; kernel_rfl
end Go.Proofs.YtodoglljjhdbeaaGreatDoor.Sketch

/- An argument that is a slice of structs, as a list: each element's cells by a function of one's own. -/
namespace Go.Proofs.YtodoglljjhdbeaaGreatDoor.Ops
open Go Go.ChangeShapes Go.WideShapes Go.Deep Go.RowKit

/-- The elements of a list lie in memory, K cells each, from the address x on. -/
def Lies {α : Type} (w : World) (K : Nat) (enc : α → List Value) (x : Option Addr) (l : List α) : Prop :=
  ∀ i a, l[i]? = some a → ∃ B off, x = some ⟨B, off, none⟩ ∧ B < w.heap.size ∧ ∀ j u, (enc a)[j]? = some u → w.cell? ⟨B, off + i * K + j, none⟩ = some u
theorem Lies.same {α : Type} {w w' : World} {K : Nat} {enc : α → List Value} {x : Option Addr} {l : List α} (h : Lies w K enc x l) (hb : Below w.heap.size w w') : Lies w' K enc x l := fun i a ha => by
  obtain ⟨B, off, hx, hB, hc⟩ := h i a ha
  exact ⟨B, off, hx, Nat.lt_of_lt_of_le hB hb.size, fun j u hu => (World.cell?_of_block (hb.block B hB)).trans (hc j u hu)⟩

theorem block_of_cell {w : World} {a : Addr} {u : Value} (h : w.cell? a = some u) : a.block < w.heap.size := by
  unfold World.cell? at h
  rcases Nat.lt_or_ge a.block w.heap.size with h1 | h1
  · exact h1
  · rw [Array.getElem?_eq_none h1] at h; simp at h

section
variable {H : Type} {enc : TypeId × Value → H} {P : Program} {w : World} {base : Nat} {spare : Nat → Bool} {held : Bool}
theorem open_list {α : Type} (encA : α → List Value) (ok : α → Prop) {r : Reach} {b0 : Nat} {t e : TypeId} {K : Nat} {v : Value} {d : DataW H} {ps : List MemPlace} (ht : P.underlying t = some (.slice e)) (hK : P.cellsOf e = K) (hK0 : 0 < K)
    (hE : ∀ a, (encA a).length = K) (hel : ∀ n cs y, DataW.trod enc P w base spare held n e cs = some y → ∃ a, cs = encA a ∧ ok a)
    (hval : Value.okWide P w r b0 t v) (hd : DataW.Trod enc P w base spare held t v d ps) :
    ∃ (x : Option Addr) (n c : Nat) (l : List α), v = .slice x n c ∧ n = l.length ∧ n ≤ maxLen ∧ (∀ a ∈ l, ok a) ∧ Lies w K encA x l := by
  obtain ⟨x, n, c, rfl⟩ := okWide_slice ht hval
  obtain ⟨fuel, hf⟩ := hd
  rcases open_slice ht hf with ⟨h0, _⟩ | ⟨a, len, cap, m, n', D, Pl, hcs, hb, hl, hm, hmm, hx, hi⟩
  · simp [Value.cells] at h0
    obtain ⟨rfl, rfl, rfl⟩ := h0
    exact ⟨none, 0, 0, [], rfl, rfl, by unfold maxLen; omega, fun a ha => (by cases ha), fun i a ha => (by simp at ha)⟩
  · simp [Value.cells] at hcs
    obtain ⟨rfl, rfl, rfl⟩ := hcs
    have hlm : n ≤ m := by rw [hmm]; split <;> omega
    have hget : ∀ i, i < n → ∃ q : α, ok q ∧ ∃ B off, a = ⟨B, off, none⟩ ∧ B < w.heap.size ∧ ∀ j u, (encA q)[j]? = some u → w.cell? ⟨B, off + i * K + j, none⟩ = some u := fun i hin => by
      obtain ⟨cs', hc, ht'⟩ := hi i (by omega)
      obtain ⟨q, hq, hok⟩ := hel n' cs' _ ht'
      obtain ⟨_, hcl, hat⟩ := World.cells?_some hc
      rw [hK] at hcl hat
      refine ⟨q, hok, ?_⟩
      have h0 := hat 0 hK0
      obtain ⟨B, off, sp⟩ := a
      have hsp : sp = none := by
        obtain ⟨cs0, hc0, _⟩ := hi 0 (by omega)
        obtain ⟨_, hcl0, hat0⟩ := World.cells?_some hc0
        rw [hK] at hcl0 hat0
        have h00 := hat0 0 hK0
        rw [List.getElem?_eq_getElem (by omega)] at h00
        simpa [Addr.add] using World.cell?_spot h00
      subst hsp
      have hadd : ∀ k, (⟨B, off, none⟩ : Addr).add k = ⟨B, off + k, none⟩ := fun k => by unfold Addr.add; split <;> simp_all
      refine ⟨B, off, rfl, ?_, fun j u hu => ?_⟩
      · rw [List.getElem?_eq_getElem (by omega)] at h0
        have := block_of_cell h0
        rw [hadd] at this
        exact this
      · have hj : j < K := by
          have := (List.getElem?_eq_some_iff.1 hu).1
          rw [hE] at this; exact this
        have h1 := hat j hj
        rw [Go.Deep.add_add, hadd, hq, hu] at h1
        rw [Nat.add_assoc]; exact h1
    refine ⟨some a, n, c, List.ofFn fun i : Fin n => Classical.choose (hget i.1 i.2), rfl, by simp, by omega, fun q hq => ?_, fun i q hq => ?_⟩
    · obtain ⟨i, rfl⟩ := (List.mem_ofFn).1 hq
      exact (Classical.choose_spec (hget i.1 i.2)).1
    · have hin : i < n := by
        have := (List.getElem?_eq_some_iff.1 hq).1
        simpa using this
      rw [List.getElem?_ofFn, dif_pos hin] at hq
      injection hq with hq
      subst hq
      obtain ⟨B, off, e1, e2, e3⟩ := (Classical.choose_spec (hget i hin)).2
      exact ⟨B, off, congrArg some e1, e2, e3⟩
end
end Go.Proofs.YtodoglljjhdbeaaGreatDoor.Ops

/- Layer 5's list of calls, as an argument. -/
namespace Go.Proofs.YtodoglljjhdbeaaGreatDoor.Sketch
open Go Go.ChangeShapes Go.WideShapes Go.Deep Go.RowKit Go.Proofs.YtodoglljjhdbeaaGreatDoor.Ops

structure Op where
  kind : Int
  times : Int
  s : ByteArray
def encO (o : Op) : List Value := [.int .i64 o.kind, .int .i64 o.times, .string o.s]
def isI (n : Int) : Prop := -9223372036854775808 ≤ n ∧ n ≤ 9223372036854775807
structure OpOk (o : Op) : Prop where
  kind : isI o.kind
  times : isI o.times
  s : o.s.size ≤ maxLen
theorem isI_of {n : Int} (h : (Lit.int .i64 n).wf = true) : isI n := by simpa [isI, Lit.wf, IntKind.min, IntKind.max, IntKind.signed, IntKind.bits] using h

section
variable {H : Type} {enc : TypeId × Value → H} {w : World} {base : Nat} {spare : Nat → Bool} {held : Bool}
end
end Go.Proofs.YtodoglljjhdbeaaGreatDoor.Sketch

/- Layer 5's statements: the chapter's example, Short, a sketch in a run. -/
namespace Go.Proofs.YtodoglljjhdbeaaGreatDoor.Sketch
open Go Go.RowKit Go.Proofs.YtodoglljjhdbeaaGreatDoor.Mem Go.Proofs.YtodoglljjhdbeaaGreatDoor.Ops

theorem add_false {k : St} {t : List UInt8} (h : (k.add t).1 = false) : k.age + 1 < 640 ∧ (k.add t).2 = { k with c := ups k.seed t k.c 4, age := k.age + 1 } := by
  unfold St.add at h ⊢
  by_cases ha : k.age + 1 < 640
  · rw [if_pos ha]; exact ⟨ha, rfl⟩
  · rw [if_neg ha] at h; cases h
theorem add_true {k : St} {t : List UInt8} (h : (k.add t).1 = true) : ¬ k.age + 1 < 640 ∧ (k.add t).2 = { k with c := half (ups k.seed t k.c 4), age := 320 } := by
  unfold St.add at h ⊢
  by_cases ha : k.age + 1 < 640
  · rw [if_pos ha] at h; cases h
  · rw [if_neg ha]; exact ⟨ha, rfl⟩
/-- A sketch in a run that began at W. -/
structure Run (W w : World) (b : Nat) (k : St) : Prop where
  at_ : At w b k
  low : W.heap.size ≤ b
  below : Below W.heap.size W w
  ok : Ok k
section
variable {W w w' : World} {b : Nat} {k : St}
theorem At.lt (h : At w b k) : b < w.heap.size := (Array.getElem?_eq_some_iff.1 h).1
theorem At.below (h : At w b k) (hb : Below w.heap.size w w') : At w' b k := (hb.block b h.lt).trans h
theorem At.only (h : At w b k) {F : Nat → Prop} (ho : Only F w w') (hF : ¬ F b) : At w' b k := (ho.same b h.lt hF).trans h
theorem Run.step (h : Run W w b k) (hb : Below w.heap.size w w') : Run W w' b k := ⟨h.at_.below hb, h.low, Mem.tr h.below hb, h.ok⟩
theorem Run.add {s : List UInt8} (h : Run W w b k) (ha : At w' b (k.add s).2) (ho : Only (fun j => j = b) w w') : Run W w' b (k.add s).2 :=
  ⟨ha, h.low, h.below.trans (ho.below h.below.size (fun _ e => e ▸ h.low)), h.ok.add s⟩
theorem Run.other {F : Nat → Prop} (h : Run W w b k) (ho : Only F w w') (hF : ∀ j, F j → b ≠ j ∧ W.heap.size ≤ j) : Run W w' b k :=
  ⟨h.at_.only ho (fun e => (hF _ e).1 rfl), h.low, h.below.trans (ho.below h.below.size (fun _ e => (hF _ e).2)), h.ok⟩
end
theorem new_run {seed : Int} (h0 : 0 ≤ seed ∧ seed ≤ 18446744073709551615) {W w : World} (hb : Below W.heap.size W w) : Calls Tryz.prog 44 #[.int .u64 seed] w fun e w' =>
    ∃ b : Nat, e = .returned (.pointer (some ⟨b, 0, none⟩)) ∧ Run W w' b (new seed) ∧ w.heap.size ≤ b :=
  (new_gives seed w).mono fun _ _ ⟨b, he, ha, hl, hw⟩ => ⟨b, he, ⟨ha, Nat.le_trans hb.size hl, Mem.tr hb hw, Ok.new h0.1 (by omega)⟩, hl⟩
theorem add_run {W w : World} {b : Nat} {k : St} (h : Run W w b k) (s : ByteArray) (hs : s.size ≤ maxLen) : Calls Tryz.prog 50 #[.pointer (some ⟨b, 0, none⟩), .string s] w fun e w' =>
    e = .returned (.bool (k.add s.data.toList).1) ∧ Run W w' b (k.add s.data.toList).2 ∧ Only (fun j => j = b) w w' :=
  (add_any h.at_ h.ok s hs).mono fun _ _ ⟨he, ha, ho⟩ => ⟨he, h.add ha ho, ho⟩
theorem count_run {W w : World} {b : Nat} {k : St} (h : Run W w b k) (s : ByteArray) (hs : s.size ≤ maxLen) : Calls Tryz.prog 117 #[.pointer (some ⟨b, 0, none⟩), .string s] w fun e w' =>
    e = .returned (.int .i64 (k.count s.data.toList : Nat)) ∧ Run W w' b k ∧ Below w.heap.size w w' :=
  (count_any h.at_ h.ok s hs).mono fun _ _ ⟨he, hb⟩ => ⟨he, h.step hb, hb⟩

def Shorts (l : List Op) : Prop := l.length ≤ 60 ∧ ∀ o ∈ l, o.s.size ≤ 300 ∧ o.times ≤ 100
def SaysShort (l : List Op) (e : Ending) : Prop := ∃ q : Bool, e = .returned (.bool q) ∧ (q = true ↔ Shorts l)
end Go.Proofs.YtodoglljjhdbeaaGreatDoor.Sketch

/- A bloom filter of layer 4 as plain functions: 8 words of 64 bits. -/
namespace Go.Proofs.YtodoglljjhdbeaaGreatDoor.Bloom
open Go Go.Proofs.YtodoglljjhdbeaaGreatDoor.Hash

structure St where
  seed : Int
  w : Nat → Nat
def new (seed : Int) : St := ⟨seed, fun _ => 0⟩
def pl (seed : Int) (s : List UInt8) (i : Nat) : Nat := (belowI (nthI seed s i) 512).toNat
theorem pl_lt (seed : Int) (s : List UInt8) (i : Nat) : pl seed s i < 512 := by
  have := (belowI_range (nthI seed s i) 512).2 (by omega)
  unfold pl; omega
theorem pl_int (seed : Int) (s : List UInt8) (i : Nat) : belowI (nthI seed s i) 512 = (pl seed s i : Nat) := by
  have := (belowI_range (nthI seed s i) 512).1
  unfold pl; omega
def bit (w : Nat → Nat) (p : Nat) : Bool := (w (p / 64)).testBit (p % 64)
def setB (w : Nat → Nat) (p : Nat) : Nat → Nat := fun j => if j = p / 64 then w j ||| 2 ^ (p % 64) else w j
theorem bit_setB (w : Nat → Nat) (p q : Nat) : bit (setB w p) q = (bit w q || decide (q = p)) := by
  unfold bit setB
  by_cases h : q / 64 = p / 64
  · rw [if_pos h, Nat.testBit_or, Nat.testBit_two_pow]
    congr 1
    exact decide_eq_decide.2 (by omega)
  · rw [if_neg h]
    have : ¬ q = p := fun e => h (by rw [e])
    simp [this]
def adds (seed : Int) (s : List UInt8) (w : Nat → Nat) : Nat → Nat → Nat
  | 0 => w
  | n + 1 => setB (adds seed s w n) (pl seed s n)
theorem bit_adds (seed : Int) (s : List UInt8) (w : Nat → Nat) (n q : Nat) : bit (adds seed s w n) q = true ↔ bit w q = true ∨ ∃ i, i < n ∧ q = pl seed s i := by
  induction n with
  | zero => simp [adds]
  | succ n ih =>
    unfold adds
    rw [bit_setB, Bool.or_eq_true, ih, decide_eq_true_eq]
    constructor
    · rintro ((h | ⟨i, h1, h2⟩) | h)
      · exact .inl h
      · exact .inr ⟨i, by omega, h2⟩
      · exact .inr ⟨n, by omega, h⟩
    · rintro (h | ⟨i, h1, h2⟩)
      · exact .inl (.inl h)
      · by_cases hin : i = n
        · exact .inr (hin ▸ h2)
        · exact .inl (.inr ⟨i, by omega, h2⟩)
/-- Are the first n places of a text set? -/
def hasTo (seed : Int) (s : List UInt8) (w : Nat → Nat) : Nat → Bool
  | 0 => true
  | n + 1 => hasTo seed s w n && bit w (pl seed s n)
theorem hasTo_iff (seed : Int) (s : List UInt8) (w : Nat → Nat) (n : Nat) : hasTo seed s w n = true ↔ ∀ i, i < n → bit w (pl seed s i) = true := by
  induction n with
  | zero => simp [hasTo]
  | succ n ih =>
    unfold hasTo
    rw [Bool.and_eq_true, ih]
    constructor
    · rintro ⟨h1, h2⟩ i hi
      by_cases h : i = n
      · exact h ▸ h2
      · exact h1 i (by omega)
    · exact fun h => ⟨fun i hi => h i (by omega), h n (by omega)⟩
def St.has (k : St) (s : List UInt8) : Bool := hasTo k.seed s k.w 3
def St.add (k : St) (s : List UInt8) : St := { k with w := adds k.seed s k.w 3 }
def St.clear (k : St) : St := { k with w := fun _ => 0 }
def ones (w : Nat → Nat) (n : Nat) : Nat := (List.range n).countP fun p => bit w p
def St.ones (k : St) : Nat := Bloom.ones k.w 512
structure Ok (k : St) : Prop where
  w : ∀ j, k.w j < 18446744073709551616
  s0 : 0 ≤ k.seed
  s1 : k.seed < 18446744073709551616
theorem setB_lt {w : Nat → Nat} (h : ∀ j, w j < 18446744073709551616) (p : Nat) : ∀ j, setB w p j < 18446744073709551616 := fun j => by
  unfold setB
  split
  · exact Nat.or_lt_two_pow (n := 64) (h j) (Nat.pow_lt_pow_right (by omega) (by omega))
  · exact h j
theorem adds_lt {w : Nat → Nat} (h : ∀ j, w j < 18446744073709551616) (seed : Int) (s : List UInt8) (n : Nat) : ∀ j, adds seed s w n j < 18446744073709551616 := by
  induction n with
  | zero => exact h
  | succ n ih => exact setB_lt ih _
theorem Ok.new {seed : Int} (h0 : 0 ≤ seed) (h1 : seed < 18446744073709551616) : Ok (new seed) := ⟨fun _ => by simp [Bloom.new], h0, h1⟩
theorem Ok.add {k : St} (h : Ok k) (s : List UInt8) : Ok (k.add s) := ⟨adds_lt h.w _ _ _, h.s0, h.s1⟩
theorem Ok.clear {k : St} (h : Ok k) : Ok k.clear := ⟨fun _ => by simp [St.clear], h.s0, h.s1⟩

theorem ones_ext {w v : Nat → Nat} (n : Nat) (h : ∀ p, p < n → bit w p = bit v p) : ones w n = ones v n := by
  unfold ones
  refine List.countP_congr fun p hp => ?_
  rw [h p (by simpa using hp)]
theorem ones_zero (n : Nat) : ones (fun _ => 0) n = 0 := by
  unfold ones
  rw [List.countP_eq_zero]
  intro p _
  simp [bit]
theorem ones_succ (w : Nat → Nat) (n : Nat) : ones w (n + 1) = ones w n + if bit w n then 1 else 0 := by
  unfold ones
  rw [List.range_succ, List.countP_append]
  simp [List.countP_cons]
theorem ones_setB (w : Nat → Nat) (p n : Nat) : ones (setB w p) n = ones w n + if p < n ∧ bit w p = false then 1 else 0 := by
  induction n with
  | zero => simp [ones]
  | succ n ih =>
    rw [ones_succ, ones_succ, ih, bit_setB]
    by_cases hpn : n = p
    · subst hpn
      cases hb : bit w n <;> simp
    · have hd : decide (n = p) = false := by simpa using hpn
      rw [hd, Bool.or_false]
      by_cases hlt : p < n
      · have h1 : p < n + 1 := by omega
        simp only [hlt, h1, true_and]
        omega
      · have h1 : ¬ p < n + 1 := by omega
        simp only [hlt, h1, false_and, if_false]
        omega
theorem ones_mono {w v : Nat → Nat} (n : Nat) (h : ∀ p, bit w p = true → bit v p = true) : ones w n ≤ ones v n := by
  induction n with
  | zero => simp [ones]
  | succ n ih =>
    rw [ones_succ, ones_succ]
    cases hb : bit w n
    · simp; omega
    · rw [h n hb]; simp; omega
theorem ones_le (w : Nat → Nat) (n : Nat) : ones w n ≤ n := by
  have := @List.countP_le_length _ (fun p => bit w p) (List.range n)
  simpa [ones] using this
end Go.Proofs.YtodoglljjhdbeaaGreatDoor.Bloom

/- How many bits of a word are set: the sum over its bytes; the walk over math/bits.OnesCount64. -/
namespace Go.Proofs.YtodoglljjhdbeaaGreatDoor.Pop
open Go Go.RowKit

def popN (n x : Nat) : Nat := (List.range n).countP fun i => x.testBit i
theorem popN_split (n b x : Nat) (hb : b < 256) : popN (8 + n) (b + 256 * x) = popN 8 b + popN n x := by
  have ht := Nat.testBit_two_pow_mul_add x (b := b) (i := 8) hb
  unfold popN
  rw [List.range_add, List.countP_append, List.countP_map]
  congr 1
  · refine List.countP_congr fun i hi => ?_
    have hi8 : i < 8 := by simpa using hi
    rw [show b + 256 * x = 2 ^ 8 * x + b from by omega, ht, if_pos hi8]
  · refine List.countP_congr fun i _ => ?_
    simp only [Function.comp]
    rw [show b + 256 * x = 2 ^ 8 * x + b from by omega, ht, if_neg (by omega), show 8 + i - 8 = i from by omega]

def val : List Nat → Nat
  | [] => 0
  | b :: l => b + 256 * val l
def msk (m n : Nat) : Nat := val (List.replicate n m)
theorem and_split (a m a' m' : Nat) (ha : a < 256) (hm : m < 256) : (a + 256 * a') &&& (m + 256 * m') = (a &&& m) + 256 * (a' &&& m') := by
  have h1 := @Nat.and_mod_two_pow (a + 256 * a') (m + 256 * m') 8
  have h2 := @Nat.and_div_two_pow (a + 256 * a') (m + 256 * m') 8
  rw [show (2 : Nat) ^ 8 = 256 from rfl] at h1 h2
  rw [show (a + 256 * a') % 256 = a from by omega, show (m + 256 * m') % 256 = m from by omega] at h1
  rw [show (a + 256 * a') / 256 = a' from by omega, show (m + 256 * m') / 256 = m' from by omega] at h2
  omega
theorem msk_succ (m n : Nat) : msk m (n + 1) = m + 256 * msk m n := rfl
def p1 (b : Nat) : Nat := ((b / 2) &&& 85) + (b &&& 85)
def p2 (b : Nat) : Nat := ((b / 4) &&& 51) + (b &&& 51)
def p3 (b : Nat) : Nat := (b / 16 + b) &&& 15
theorem byte1 : ∀ b : Fin 256, ∀ t : Fin 2, (b.1 / 2 + 128 * t.1) < 256 ∧ (b.1 / 2 + 128 * t.1) &&& 85 = (b.1 / 2) &&& 85 := by decide +kernel
theorem byte2 : ∀ b : Fin 256, ∀ t : Fin 4, (b.1 / 4 + 64 * t.1) < 256 ∧ (b.1 / 4 + 64 * t.1) &&& 51 = (b.1 / 4) &&& 51 := by decide +kernel
theorem byte3 : ∀ b : Fin 256, ∀ t : Fin 5, b.1 % 16 ≤ 4 → b.1 / 16 ≤ 4 → (b.1 / 16 + 16 * t.1 + b.1) < 256 ∧ (b.1 / 16 + 16 * t.1 + b.1) &&& 15 = (b.1 / 16 + b.1) &&& 15 := by decide +kernel
theorem good1 : ∀ b : Fin 256, p1 b.1 < 256 := by decide +kernel
theorem good2 : ∀ b : Fin 256, p2 (p1 b.1) < 256 ∧ p2 (p1 b.1) % 16 ≤ 4 ∧ p2 (p1 b.1) / 16 ≤ 4 := by decide +kernel
theorem pop_byte : ∀ b : Fin 256, p3 (p2 (p1 b.1)) = popN 8 b.1 ∧ popN 8 b.1 ≤ 8 := by decide +kernel
theorem step1 : ∀ (l : List Nat), (∀ b ∈ l, b < 256) → ((val l / 2) &&& msk 85 l.length) + (val l &&& msk 85 l.length) = val (l.map p1)
  | [], _ => by simp [val]
  | b :: l, h => by
    have hb := h b (by simp)
    have ih := step1 l fun c hc => h c (by simp [hc])
    have k := byte1 ⟨b, hb⟩ ⟨val l % 2, by omega⟩
    simp only at k
    rw [List.length_cons, msk_succ]
    show ((b + 256 * val l) / 2 &&& _) + ((b + 256 * val l) &&& _) = p1 b + 256 * val (l.map p1)
    rw [show (b + 256 * val l) / 2 = (b / 2 + 128 * (val l % 2)) + 256 * (val l / 2) from by omega, and_split _ _ _ _ k.1 (by omega), and_split _ _ _ _ hb (by omega), k.2, ← ih]
    unfold p1; omega
theorem step2 : ∀ (l : List Nat), (∀ b ∈ l, b < 256) → ((val l / 4) &&& msk 51 l.length) + (val l &&& msk 51 l.length) = val (l.map p2)
  | [], _ => by simp [val]
  | b :: l, h => by
    have hb := h b (by simp)
    have ih := step2 l fun c hc => h c (by simp [hc])
    have k := byte2 ⟨b, hb⟩ ⟨val l % 4, by omega⟩
    simp only at k
    rw [List.length_cons, msk_succ]
    show ((b + 256 * val l) / 4 &&& _) + ((b + 256 * val l) &&& _) = p2 b + 256 * val (l.map p2)
    rw [show (b + 256 * val l) / 4 = (b / 4 + 64 * (val l % 4)) + 256 * (val l / 4) from by omega, and_split _ _ _ _ k.1 (by omega), and_split _ _ _ _ hb (by omega), k.2, ← ih]
    unfold p2; omega
theorem val_low (l : List Nat) (h : ∀ b ∈ l, b % 16 ≤ 4) : val l % 16 ≤ 4 := by
  cases l with
  | nil => simp [val]
  | cons b l => have := h b (by simp); show (b + 256 * val l) % 16 ≤ 4; omega
theorem step3 : ∀ (l : List Nat), (∀ b ∈ l, b < 256 ∧ b % 16 ≤ 4 ∧ b / 16 ≤ 4) → ((val l / 16 + val l) &&& msk 15 l.length) = val (l.map p3)
  | [], _ => by simp [val]
  | b :: l, h => by
    obtain ⟨hb, h1, h2⟩ := h b (by simp)
    have ih := step3 l fun c hc => h c (by simp [hc])
    have hl := val_low l fun c hc => (h c (by simp [hc])).2.1
    have k := byte3 ⟨b, hb⟩ ⟨val l % 16, by omega⟩ h1 h2
    simp only at k
    rw [List.length_cons, msk_succ]
    show (((b + 256 * val l) / 16 + (b + 256 * val l)) &&& _) = p3 b + 256 * val (l.map p3)
    rw [show (b + 256 * val l) / 16 + (b + 256 * val l) = (b / 16 + 16 * (val l % 16) + b) + 256 * (val l / 16 + val l) from by omega, and_split _ _ _ _ k.1 (by omega), k.2, ih]
    rfl
def bytesOf (x : Nat) : List Nat := [x % 256, x / 256 % 256, x / 65536 % 256, x / 16777216 % 256, x / 4294967296 % 256, x / 1099511627776 % 256, x / 281474976710656 % 256, x / 72057594037927936]
theorem val_bytes (x : Nat) : val (bytesOf x) = x := by
  simp only [bytesOf, val]; omega
theorem bytes_lt {x : Nat} (h : x < 18446744073709551616) : ∀ b ∈ bytesOf x, b < 256 := by
  intro b hb
  simp only [bytesOf, List.mem_cons, List.not_mem_nil, or_false] at hb
  omega
theorem pop_val (b0 b1 b2 b3 b4 b5 b6 b7 : Nat) (h0 : b0 < 256) (h1 : b1 < 256) (h2 : b2 < 256) (h3 : b3 < 256) (h4 : b4 < 256) (h5 : b5 < 256) (h6 : b6 < 256) (h7 : b7 < 256) :
    popN 64 (val [b0, b1, b2, b3, b4, b5, b6, b7]) = popN 8 b0 + (popN 8 b1 + (popN 8 b2 + (popN 8 b3 + (popN 8 b4 + (popN 8 b5 + (popN 8 b6 + popN 8 b7)))))) := by
  simp only [val]
  rw [show 64 = 8 + (8 + (8 + (8 + (8 + (8 + (8 + (8 + 0))))))) from rfl, popN_split _ _ _ h0, popN_split _ _ _ h1, popN_split _ _ _ h2, popN_split _ _ _ h3, popN_split _ _ _ h4, popN_split _ _ _ h5, popN_split _ _ _ h6, popN_split _ _ _ h7]
  rfl
theorem val_div (c : Nat) (l : List Nat) (h : c < 256) : val (c :: l) / 256 = val l := by
  show (c + 256 * val l) / 256 = val l
  omega
theorem val_lt : ∀ (l : List Nat), (∀ b ∈ l, b < 256) → val l < 256 ^ l.length
  | [], _ => by simp [val]
  | b :: l, h => by
    have hb := h b (by simp)
    have ih := val_lt l fun c hc => h c (by simp [hc])
    show b + 256 * val l < 256 ^ (l.length + 1)
    rw [Nat.pow_succ]
    omega
theorem val_third : ∀ (l : List Nat), (∀ b ∈ l, b ≤ 68) → 3 * val l < 256 ^ l.length
  | [], _ => by simp [val]
  | b :: l, h => by
    have hb := h b (by simp)
    have ih := val_third l fun c hc => h c (by simp [hc])
    show 3 * (b + 256 * val l) < 256 ^ (l.length + 1)
    rw [Nat.pow_succ]
    omega
theorem lt8 (c0 c1 c2 c3 c4 c5 c6 c7 : Nat) (h : ∀ b ∈ [c0, c1, c2, c3, c4, c5, c6, c7], b < 256) : val [c0, c1, c2, c3, c4, c5, c6, c7] < 18446744073709551616 := by
  have := val_lt _ h
  simpa using this
theorem add1 (c0 c1 c2 c3 c4 c5 c6 c7 : Nat) : val [c0, c1, c2, c3, c4, c5, c6, c7] + val [c1, c2, c3, c4, c5, c6, c7] = val [c0 + c1, c1 + c2, c2 + c3, c3 + c4, c4 + c5, c5 + c6, c6 + c7, c7] := by
  simp only [val]; omega
theorem add2 (c0 c1 c2 c3 c4 c5 c6 c7 : Nat) : val [c0, c1, c2, c3, c4, c5, c6, c7] + val [c2, c3, c4, c5, c6, c7] = val [c0 + c2, c1 + c3, c2 + c4, c3 + c5, c4 + c6, c5 + c7, c6, c7] := by
  simp only [val]; omega
theorem add4 (c0 c1 c2 c3 c4 c5 c6 c7 : Nat) : val [c0, c1, c2, c3, c4, c5, c6, c7] + val [c4, c5, c6, c7] = val [c0 + c4, c1 + c5, c2 + c6, c3 + c7, c4, c5, c6, c7] := by
  simp only [val]; omega
theorem small8 {c0 c1 c2 c3 c4 c5 c6 c7 n : Nat} (h0 : c0 ≤ n) (h1 : c1 ≤ n) (h2 : c2 ≤ n) (h3 : c3 ≤ n) (h4 : c4 ≤ n) (h5 : c5 ≤ n) (h6 : c6 ≤ n) (h7 : c7 ≤ n) (hn : n < 256) : ∀ b ∈ [c0, c1, c2, c3, c4, c5, c6, c7], b < 256 := by
  intro b hb
  simp only [List.mem_cons, List.not_mem_nil, or_false] at hb
  omega
theorem fold_up (c0 c1 c2 c3 c4 c5 c6 c7 : Nat) (h0 : c0 ≤ 8) (h1 : c1 ≤ 8) (h2 : c2 ≤ 8) (h3 : c3 ≤ 8) (h4 : c4 ≤ 8) (h5 : c5 ≤ 8) (h6 : c6 ≤ 8) (h7 : c7 ≤ 8) (x y z v : Nat)
    (hx : x = val [c0, c1, c2, c3, c4, c5, c6, c7]) (hy : y = x + x / 256) (hz : z = y + y / 65536) (hv : v = z + z / 4294967296) :
    v < 18446744073709551616 ∧ y < 18446744073709551616 ∧ z < 18446744073709551616 ∧ v % 128 = c0 + (c1 + (c2 + (c3 + (c4 + (c5 + (c6 + c7)))))) := by
  have e1 : x / 256 = val [c1, c2, c3, c4, c5, c6, c7] := by rw [hx, val_div _ _ (by omega)]
  rw [e1, hx, add1] at hy
  have e2 : y / 65536 = val [c2 + c3, c3 + c4, c4 + c5, c5 + c6, c6 + c7, c7] := by
    rw [show (65536 : Nat) = 256 * 256 from rfl, ← Nat.div_div_eq_div_mul, hy, val_div _ _ (by omega), val_div _ _ (by omega)]
  rw [e2, hy, add2] at hz
  have e3 : z / 4294967296 = val [c4 + c5 + (c6 + c7), c5 + c6 + c7, c6 + c7, c7] := by
    rw [show (4294967296 : Nat) = 256 * 256 * 256 * 256 from rfl, ← Nat.div_div_eq_div_mul, ← Nat.div_div_eq_div_mul, ← Nat.div_div_eq_div_mul, hz, val_div _ _ (by omega), val_div _ _ (by omega), val_div _ _ (by omega), val_div _ _ (by omega)]
  rw [e3, hz, add4] at hv
  have by_ := lt8 _ _ _ _ _ _ _ _ (small8 (n := 64) (show c0 + c1 ≤ 64 by omega) (show c1 + c2 ≤ 64 by omega) (show c2 + c3 ≤ 64 by omega) (show c3 + c4 ≤ 64 by omega) (show c4 + c5 ≤ 64 by omega) (show c5 + c6 ≤ 64 by omega) (show c6 + c7 ≤ 64 by omega) (show c7 ≤ 64 by omega) (by omega))
  have bz := lt8 _ _ _ _ _ _ _ _ (small8 (n := 64) (show c0 + c1 + (c2 + c3) ≤ 64 by omega) (show c1 + c2 + (c3 + c4) ≤ 64 by omega) (show c2 + c3 + (c4 + c5) ≤ 64 by omega) (show c3 + c4 + (c5 + c6) ≤ 64 by omega) (show c4 + c5 + (c6 + c7) ≤ 64 by omega) (show c5 + c6 + c7 ≤ 64 by omega) (show c6 + c7 ≤ 64 by omega) (show c7 ≤ 64 by omega) (by omega))
  have bv := lt8 _ _ _ _ _ _ _ _ (small8 (n := 64) (show c0 + c1 + (c2 + c3) + (c4 + c5 + (c6 + c7)) ≤ 64 by omega) (show c1 + c2 + (c3 + c4) + (c5 + c6 + c7) ≤ 64 by omega) (show c2 + c3 + (c4 + c5) + (c6 + c7) ≤ 64 by omega) (show c3 + c4 + (c5 + c6) + c7 ≤ 64 by omega) (show c4 + c5 + (c6 + c7) ≤ 64 by omega) (show c5 + c6 + c7 ≤ 64 by omega) (show c6 + c7 ≤ 64 by omega) (show c7 ≤ 64 by omega) (by omega))
  rw [← hy] at by_
  rw [← hz] at bz
  rw [← hv] at bv
  refine ⟨bv, by_, bz, ?_⟩
  rw [hv]
  show (c0 + c1 + (c2 + c3) + (c4 + c5 + (c6 + c7)) + 256 * val _) % 128 = _
  generalize val _ = R
  omega
theorem u64w {n : Nat} (h : n < 18446744073709551616) : IntKind.u64.wrap (n : Int) = n := by rw [IntKind.wrap_u64]; omega
theorem good1' {b : Nat} (h : b < 256) : p1 b < 256 := good1 ⟨b, h⟩
theorem good2' {b : Nat} (h : b < 256) : p2 (p1 b) < 256 ∧ p2 (p1 b) % 16 ≤ 4 ∧ p2 (p1 b) / 16 ≤ 4 := good2 ⟨b, h⟩
theorem pop_byte' {b : Nat} (h : b < 256) : p3 (p2 (p1 b)) = popN 8 b ∧ popN 8 b ≤ 8 := pop_byte ⟨b, h⟩
/-- The steps of OnesCount64, named. -/
theorem ones_steps {x : Nat} (hx : x < 18446744073709551616) : ∃ x1 x2 x3, x1 = ((x / 2) &&& msk 85 8) + (x &&& msk 85 8) ∧ x1 < 18446744073709551616 ∧ x2 = ((x1 / 4) &&& msk 51 8) + (x1 &&& msk 51 8) ∧ x2 < 18446744073709551616 ∧
    x2 / 16 + x2 < 18446744073709551616 ∧ x3 = ((x2 / 16 + x2) &&& msk 15 8) ∧ x3 < 18446744073709551616 ∧ ∀ y z v, y = x3 + x3 / 256 → z = y + y / 65536 → v = z + z / 4294967296 →
      y < 18446744073709551616 ∧ z < 18446744073709551616 ∧ v < 18446744073709551616 ∧ v % 128 = popN 64 x := by
  have hb := bytes_lt hx
  have hv := val_bytes x
  obtain ⟨b0, b1, b2, b3, b4, b5, b6, b7, hl⟩ : ∃ b0 b1 b2 b3 b4 b5 b6 b7, bytesOf x = [b0, b1, b2, b3, b4, b5, b6, b7] := ⟨_, _, _, _, _, _, _, _, rfl⟩
  rw [hl] at hb hv
  clear hl
  have s1 := step1 _ hb
  have g1 : ∀ b ∈ [b0, b1, b2, b3, b4, b5, b6, b7].map p1, b < 256 := fun b h => by obtain ⟨c, hc, rfl⟩ := List.mem_map.1 h; exact good1' (hb c hc)
  have g2 : ∀ b ∈ ([b0, b1, b2, b3, b4, b5, b6, b7].map p1).map p2, b < 256 ∧ b % 16 ≤ 4 ∧ b / 16 ≤ 4 := fun b h => by
    obtain ⟨d, hd, rfl⟩ := List.mem_map.1 h
    obtain ⟨c, hc, rfl⟩ := List.mem_map.1 hd
    exact good2' (hb c hc)
  have s2 := step2 _ g1
  have s3 := step3 _ g2
  have l1 := lt8 _ _ _ _ _ _ _ _ g1
  have l2 := lt8 _ _ _ _ _ _ _ _ (fun b h => (g2 b h).1)
  have l2' := val_third _ (fun b h => by have := g2 b h; omega : ∀ b ∈ ([b0, b1, b2, b3, b4, b5, b6, b7].map p1).map p2, b ≤ 68)
  have l3 : ∀ c ∈ [b0, b1, b2, b3, b4, b5, b6, b7], p3 (p2 (p1 c)) = popN 8 c ∧ popN 8 c ≤ 8 := fun c hc => pop_byte' (hb c hc)
  simp only [List.mem_cons, List.not_mem_nil, or_false, forall_eq_or_imp, forall_eq] at l3 hb
  obtain ⟨k0, k1, k2, k3, k4, k5, k6, k7⟩ := l3
  obtain ⟨d0, d1, d2, d3, d4, d5, d6, d7⟩ := hb
  have hpop := pop_val b0 b1 b2 b3 b4 b5 b6 b7 d0 d1 d2 d3 d4 d5 d6 d7
  rw [hv] at hpop s1
  simp only [List.map_cons, List.map_nil, List.length_cons, List.length_nil, Nat.reduceAdd, Nat.reducePow] at s1 s2 s3 l1 l2 l2'
  rw [k0.1, k1.1, k2.1, k3.1, k4.1, k5.1, k6.1, k7.1] at s3
  have l4 := lt8 _ _ _ _ _ _ _ _ (small8 k0.2 k1.2 k2.2 k3.2 k4.2 k5.2 k6.2 k7.2 (by omega))
  refine ⟨_, _, _, s1.symm, l1, s2.symm, l2, by omega, s3.symm, l4, fun y z v hy hz hw => ?_⟩
  have hf := fold_up _ _ _ _ _ _ _ _ k0.2 k1.2 k2.2 k3.2 k4.2 k5.2 k6.2 k7.2 _ y z v rfl hy hz hw
  rw [← hpop] at hf
  exact ⟨hf.2.1, hf.2.2.1, hf.1, hf.2.2.2⟩
theorem mask85 : msk 85 8 = 6148914691236517205 := by decide +kernel
theorem mask51 : msk 51 8 = 3689348814741910323 := by decide +kernel
theorem mask15 : msk 15 8 = 1085102592571150095 := by decide +kernel
theorem wrap64_mod (v : Int) : wrap64 v % 128 = v % 128 := by
  unfold wrap64; omega
end Go.Proofs.YtodoglljjhdbeaaGreatDoor.Pop

/- The walks over layer 4: New, Copy, Clear, Ones. -/
namespace Go.Proofs.YtodoglljjhdbeaaGreatDoor.Bloom
open Go Go.RowKit Go.Proofs.YtodoglljjhdbeaaGreatDoor.Mem

theorem ret_int {k : IntKind} {a b : Int} (h : a = b) : Ending.returned (.int k a) = .returned (.int k b) := by rw [h]
def cells (k : St) : Array Value := #[.int .u64 k.seed, .int .u64 (k.w 0 : Nat), .int .u64 (k.w 1 : Nat), .int .u64 (k.w 2 : Nat), .int .u64 (k.w 3 : Nat), .int .u64 (k.w 4 : Nat), .int .u64 (k.w 5 : Nat), .int .u64 (k.w 6 : Nat), .int .u64 (k.w 7 : Nat)]
def At (w : World) (b : Nat) (k : St) : Prop := w.heap[b]? = some (.cells (cells k) 127 (0, 0))
theorem cells_word (k : St) {j : Nat} (h : j < 8) : (cells k)[1 + j]? = some (.int .u64 (k.w j : Nat)) := by
  match j, h with
  | 0, _ | 1, _ | 2, _ | 3, _ | 4, _ | 5, _ | 6, _ | 7, _ => rfl
theorem cells_set {k k' : St} {j : Nat} {v : Nat} (hj : j < 8) (hs : k'.seed = k.seed) (hv : k'.w j = v) (ho : ∀ i, i ≠ j → k'.w i = k.w i) : (cells k).setIfInBounds (1 + j) (.int .u64 (v : Nat)) = cells k' := by
  unfold cells
  rw [hs, ← hv]
  match j, hj with
  | 0, _ => rw [ho 1 (by omega), ho 2 (by omega), ho 3 (by omega), ho 4 (by omega), ho 5 (by omega), ho 6 (by omega), ho 7 (by omega)]; rfl
  | 1, _ => rw [ho 0 (by omega), ho 2 (by omega), ho 3 (by omega), ho 4 (by omega), ho 5 (by omega), ho 6 (by omega), ho 7 (by omega)]; rfl
  | 2, _ => rw [ho 0 (by omega), ho 1 (by omega), ho 3 (by omega), ho 4 (by omega), ho 5 (by omega), ho 6 (by omega), ho 7 (by omega)]; rfl
  | 3, _ => rw [ho 0 (by omega), ho 1 (by omega), ho 2 (by omega), ho 4 (by omega), ho 5 (by omega), ho 6 (by omega), ho 7 (by omega)]; rfl
  | 4, _ => rw [ho 0 (by omega), ho 1 (by omega), ho 2 (by omega), ho 3 (by omega), ho 5 (by omega), ho 6 (by omega), ho 7 (by omega)]; rfl
  | 5, _ => rw [ho 0 (by omega), ho 1 (by omega), ho 2 (by omega), ho 3 (by omega), ho 4 (by omega), ho 6 (by omega), ho 7 (by omega)]; rfl
  | 6, _ => rw [ho 0 (by omega), ho 1 (by omega), ho 2 (by omega), ho 3 (by omega), ho 4 (by omega), ho 5 (by omega), ho 7 (by omega)]; rfl
  | 7, _ => rw [ho 0 (by omega), ho 1 (by omega), ho 2 (by omega), ho 3 (by omega), ho 4 (by omega), ho 5 (by omega), ho 6 (by omega)]; rfl
theorem zero_bloom (w : World) : (zeroValue 127).run Tryz.prog w = .ok (.agg (cells (new 0))) w := by
  have h : Tryz.t127.zero = some (.agg (cells (new 0))) := by kernel_rfl
  unfold zeroValue
  go_simp
theorem new_any (seed : Int) (w : World) : Calls Tryz.prog 43 #[.int .u64 seed] w fun e w' =>
    e = .returned (.pointer (some ⟨w.heap.size, 0, none⟩)) ∧ w' = w.alloc (.cells (cells (new seed)) 127) := by
  go_enter Tryz.func43, Tryz.ntmps43
  go_wp2
  go_ret
  exact ⟨rfl, rfl⟩
theorem new_gives (seed : Int) (w : World) : Calls Tryz.prog 43 #[.int .u64 seed] w fun e w' =>
    ∃ b : Nat, e = .returned (.pointer (some ⟨b, 0, none⟩)) ∧ At w' b (new seed) ∧ w.heap.size ≤ b ∧ Below w.heap.size w w' :=
  (new_any seed w).mono fun e w' ⟨he, hw⟩ => by
    subst hw
    exact ⟨_, he, Mem.new_block w _, Nat.le_refl _, Mem.al (Below.refl _ _) _⟩
theorem bloom_size (k : St) : (Tryz.prog.info? 127).map (·.size) = some (cells k).size := by
  rw [show (cells k).size = 9 from rfl]; kernel_rfl
theorem cells_one (k : St) : (cells k).all (·.oneCell') = true := by
  unfold cells
  rw [List.all_toArray]
  simp [Value.oneCell']
theorem store_bloom (w : World) (k : St) : (storeCells ⟨w.heap.size, 0, none⟩ (cells k).toList 0).run Tryz.prog (w.alloc (.cells (cells (new 0)) 127)) = .ok () (w.alloc (.cells (cells k) 127)) :=
  run_storeCells_new w 127 _ _ (bloom_size k) rfl (cells_one k)
theorem setCells_row {b : Nat} {t : TypeId} : ∀ (vs : List Value) (o : Nat) (w : World) (cs : Array Value), w.heap[b]? = some (.cells cs t (0, 0)) → o + vs.length ≤ cs.size →
    (w.setCells b o vs).heap[b]? = some (.cells (cs.toList.take o ++ vs ++ cs.toList.drop (o + vs.length)).toArray t (0, 0))
  | [], o, w, cs, h, _ => by
    simp only [World.setCells, List.append_nil, List.length_nil, Nat.add_zero, List.take_append_drop, Array.toArray_toList]; exact h
  | v :: vs, o, w, cs, h, hl => by
    simp only [List.length_cons] at hl
    show ((w.setCell ⟨b, o, none⟩ v).setCells b (o + 1) vs).heap[b]? = _
    rw [setCells_row vs (o + 1) _ _ (Mem.row_set h o v) (by simp; omega)]
    congr 2
    simp only [Array.toList_setIfInBounds, List.length_cons]
    rw [List.drop_set_of_lt (by omega), show o + 1 + vs.length = o + (vs.length + 1) from by omega, List.take_succ_eq_append_getElem (by simp; omega), List.getElem_set_self, List.take_set_of_le (Nat.le_refl _)]
    simp
theorem setCells_only {b : Nat} : ∀ (vs : List Value) (o : Nat) (w : World), Only (fun j => j = b) w (w.setCells b o vs)
  | [], _, w => Only.refl _ w
  | v :: vs, o, w => ((Only.refl (fun j => j = b) w).setCell (p := ⟨b, o, none⟩) (.inl rfl) v).trans (setCells_only vs (o + 1) _) (fun _ e => .inl e)
theorem zero_word (w : World) : (zeroValue 25).run Tryz.prog w = .ok (.int .u64 0) w := by
  have h : Tryz.t25.zero = some (.int .u64 0) := by kernel_rfl
  unfold zeroValue
  go_simp
theorem clear_any {w : World} {b : Nat} {k : St} (h : At w b k) : Calls Tryz.prog 51 #[.pointer (some ⟨b, 0, none⟩)] w fun e w' => e = .returned (.tuple #[]) ∧ At w' b k.clear ∧ Only (fun j => j = b) w w' := by
  have hcl := fun ty => Lib.run_clear_slice (P := Tryz.prog) w 145 25 ty (.int .u64 0) Tryz.underlying145 zero_word rfl rfl b 1 8 8 (by omega)
    (fun j hj => by rw [Mem.row_cell h, cells_word k hj]; rfl) (fun j _ => Mem.row_free h _)
  have hfin : At (w.setCells b 1 (List.replicate 8 (.int .u64 0))) b k.clear := by
    have := setCells_row (List.replicate 8 (.int .u64 0)) 1 w _ h (by rw [List.length_replicate, show (cells k).size = 9 from rfl]; omega)
    exact this
  have HF := Lib.hid (And.intro hfin (setCells_only (b := b) (List.replicate 8 (.int .u64 0)) 1 w))
  clear h hfin
  generalize w.setCells b 1 (List.replicate 8 (.int .u64 0)) = w2 at *
  go_enter Tryz.func51, Tryz.ntmps51
  go_wp2
  go_end0
  exact ⟨rfl, HF.out⟩
theorem ones_words (w : Nat → Nat) (j : Nat) : ones w (64 * (j + 1)) = ones w (64 * j) + Pop.popN 64 (w j) := by
  unfold ones Pop.popN
  rw [show 64 * (j + 1) = 64 * j + 64 from by omega, List.range_add, List.countP_append, List.countP_map]
  congr 1
  refine List.countP_congr fun i hi => ?_
  have hi64 : i < 64 := by simpa using hi
  simp only [Function.comp, bit]
  rw [show (64 * j + i) / 64 = j from by omega, show (64 * j + i) % 64 = i from by omega]
def words (k : St) : Array Value := #[.int .u64 (k.w 0 : Nat), .int .u64 (k.w 1 : Nat), .int .u64 (k.w 2 : Nat), .int .u64 (k.w 3 : Nat), .int .u64 (k.w 4 : Nat), .int .u64 (k.w 5 : Nat), .int .u64 (k.w 6 : Nat), .int .u64 (k.w 7 : Nat)]
theorem index_word (k : St) {j : Nat} (hj : j < 8) (w : World) : (Instr.index 125 (.agg (words k)) (.int .i64 j)).run Tryz.prog w = .ok (.int .u64 (k.w j : Nat)) w := by
  have hs : (sizeOf 25).run Tryz.prog w = .ok 1 w := by
    have h : Tryz.t25.size = 1 := by kernel_rfl
    unfold sizeOf
    go_simp
  have hc : (words k)[j]? = some (.int .u64 (k.w j : Nat)) := by
    rcases (by omega : j = 0 ∨ j = 1 ∨ j = 2 ∨ j = 3 ∨ j = 4 ∨ j = 5 ∨ j = 6 ∨ j = 7) with rfl | rfl | rfl | rfl | rfl | rfl | rfl | rfl <;> rfl
  unfold Instr.index
  simp [asIntOf, run_underlying Tryz.underlying125, hs, hc, part]
  omega
end Go.Proofs.YtodoglljjhdbeaaGreatDoor.Bloom

/- The walks over layer 4: Has, Add. -/
namespace Go.Proofs.YtodoglljjhdbeaaGreatDoor.Bloom
open Go Go.RowKit Go.Shelf Go.Proofs.YtodoglljjhdbeaaGreatDoor.Mem Go.Proofs.YtodoglljjhdbeaaGreatDoor.Rng Go.Proofs.YtodoglljjhdbeaaGreatDoor.StillIn
attribute [local go_sem] Oper.semAt_some

theorem at_bit {k : St} (hk : Ok k) (p : Nat) : (bits BinOp.and IntKind.u64 (((k.w (p / 64) : Nat) : Int) / 2 ^ (p % 64)) 1 == 0) = !bit k.w p := by
  have h1 := hk.w (p / 64)
  have h2 : k.w (p / 64) / 2 ^ (p % 64) ≤ k.w (p / 64) := Nat.div_le_self _ _
  rw [show (((k.w (p / 64) : Nat) : Int) / 2 ^ (p % 64)) = ((k.w (p / 64) / 2 ^ (p % 64) : Nat) : Int) from by simp, show (1 : Int) = ((1 : Nat) : Int) from rfl, u64_and_nat _ _ (by omega) (by omega), Nat.and_one_is_mod]
  unfold bit
  rw [Nat.testBit_eq_decide_div_mod_eq]
  rcases Nat.mod_two_eq_zero_or_one (k.w (p / 64) / 2 ^ (p % 64)) with h | h <;> rw [h] <;> rfl

def blocks (B b : Nat) (k : St) : List (Nat × Obj) := [(b, .cells (cells k) 127 (0, 0)), Mem.box B 106 (.pointer (some ⟨b, 0, none⟩)), Mem.box (B + 1) 4 (.bool false)]
theorem blocks_cells (B b : Nat) (k : St) : ∀ p ∈ blocks B b k, p.2.isCells = true := by
  intro p hp
  simp only [blocks, List.mem_cons, List.not_mem_nil, or_false] at hp
  rcases hp with rfl | rfl | rfl <;> rfl
set_option maxRecDepth 100000 in
set_option maxHeartbeats 2000000 in
theorem has_any {w : World} {b : Nat} {k : St} (h : At w b k) (hk : Ok k) (s : ByteArray) (hs : s.size ≤ maxLen) :
    Calls Tryz.prog 70 #[.pointer (some ⟨b, 0, none⟩), .string s] w fun e w' => e = .returned (.bool (k.has s.data.toList)) ∧ Below w.heap.size w w' := by
  have hbl : b < w.heap.size := (Array.getElem?_eq_some_iff.1 h).1
  have c0 : ((w.alloc (.cells #[.pointer (some ⟨b, 0, none⟩)] 106)).alloc (.cells #[.bool false] 4)).cell? ⟨b, 0, none⟩ = some (.int .u64 k.seed) := Mem.row_cell (Mem.new_later (Mem.new_later h _) _) 0
  refine (callsIn_wide (n := 9)).1 (callsIn_of_wp_marks Tryz.func70 rfl trivial ?_ rfl)
  simp only [Tryz.ntmps70, List.size_toArray, List.length_cons, List.length_nil, Nat.reduceAdd, Nat.reduceSub, Array.replicate_succ, Array.replicate_zero, List.push_toArray, List.append_toArray, List.nil_append, List.cons_append]
  gi_wp2_with fail
  refine ⟨trivial, ?_⟩
  refine (callsIn_wide.2 (Hash.several_gives k.seed 3 s (by omega) hs _)).mono ?_
  rintro e w2 ⟨lb, K, rfl, hseq, hbel, hK⟩
  have hf : Fix w2 (blocks w.heap.size b k) :=
    (Fix.cons (Mem.new_later (Mem.new_later h _) _) (Fix.cons (Mem.new_later (Mem.new_block w _) _) (Fix.cons (Mem.new_block2 w _ _) (Fix.nil _)))).below hbel (Nat.le_refl _)
  have ho : Below w.heap.size w w2 := Mem.tr (Mem.al (Mem.al (Below.refl _ _) _) _) hbel
  have hs2 : w.heap.size + 1 < w2.heap.size := by have := hbel.size; simp at this; omega
  clear hbel c0 h
  gi_wp2_with fail
  refine outer rfl (Hash.enters) hseq (Below.refl _ _) (fun k hk => (hK k hk).2) (fun _ => rfl)
    (fun i W => (Below w.heap.size w W ∧ hasTo k.seed s.data.toList k.w i = true) ∧ Fix W (blocks w.heap.size b k))
    (fun c W => (c = .ret ∧ Below w.heap.size w W ∧ k.has s.data.toList = false) ∧ Fix W (blocks w.heap.size b k))
    (((ownFrom_below (Nat.le_refl _) (by omega)).and (ownFrom_pure _ (fun i : Nat => hasTo k.seed s.data.toList k.w i = true))).and (own_fix _ (fun _ : Nat => blocks w.heap.size b k) (fun _ => blocks_cells _ _ _)))
    (((ownFrom_pure _ (fun c : Code => c = .ret)).and ((ownFrom_below (Nat.le_refl _) (by omega)).and (ownFrom_pure _ (fun _ : Code => k.has s.data.toList = false)))).and (own_fix _ (fun _ : Code => blocks w.heap.size b k) (fun _ => blocks_cells _ _ _)))
    ⟨⟨ho, rfl⟩, hf⟩ ?a1 ?assign ?body ?done ?stop
  case assign =>
    intro l x W Kc hKc
    simp only [Hash.encIH]
    gi_wp2
    exact hKc
  case body =>
    rintro l i x W hl _ ⟨⟨hO, hH⟩, hF⟩ hx
    obtain ⟨hi, rfl⟩ := Hash.several_inv hx
    have c2 := Mem.box_cell hF.tail.head
    have c3 := Mem.box_cell hF.tail.tail.head
    have f3 := Mem.box_free hF.tail.tail.head
    have hpl := pl_lt k.seed s.data.toList i
    have hbit := at_bit hk (pl k.seed s.data.toList i)
    have cw : W.cell? ⟨b, 1 + pl k.seed s.data.toList i / 64, none⟩ = some (.int .u64 (k.w (pl k.seed s.data.toList i / 64) : Nat)) := (Mem.row_cell hF.head _).trans (cells_word k (by omega))
    have hbel := fun w => Hash.below_any (Hash.nthI k.seed s.data.toList i) 512 (Hash.nthI_range _ _ _).1 (Hash.nthI_range _ _ _).2 (by omega) w
    rw [pl_int] at hbel
    have hnext : hasTo k.seed s.data.toList k.w (i + 1) = (hasTo k.seed s.data.toList k.w i && bit k.w (pl k.seed s.data.toList i)) := rfl
    rw [hH, Bool.true_and] at hnext
    obtain ⟨p, hp⟩ : ∃ p, pl k.seed s.data.toList i = p := ⟨_, rfl⟩
    rw [hp] at hbel cw hnext hpl hbit
    have HN := Lib.hid (And.intro hnext hp)
    have HF := Lib.hid (And.intro hF hO)
    clear hF hO hx hf ho hseq hK hl hp hnext hH
    obtain ⟨q, hq⟩ : ∃ q, bit k.w p = q := ⟨_, rfl⟩
    rw [hq] at hbit
    have HQ := Lib.hid hq
    clear hq
    cases q
    · gi_wp2_with (refine ⟨trivial, ?_⟩; gi_at_call 72; refine (CallsIn.inRound l (callsIn_wide.2 (hbel _))).mono ?_; rintro e w' ⟨rfl, rfl⟩)
      have hno : k.has s.data.toList = false := by
        cases hh : k.has s.data.toList
        · rfl
        · have := (hasTo_iff _ _ _ _).1 hh i (by omega)
          rw [HN.out.2, HQ.out] at this
          cases this
      have hset : ∀ j, j ≠ w.heap.size + 1 → (W.setCell ⟨w.heap.size + 1, 0, none⟩ (.bool false)).heap[j]? = W.heap[j]? := fun j hj => Below.heap_setCell _ _ _ _ hj
      exact ⟨(KeepsOthers.setCell _ _ _).from _, ⟨rfl, HF.out.2.setCell (p := ⟨w.heap.size + 1, 0, none⟩) (by simp) _, hno⟩, Fix.cons ((hset _ (by simp; omega)).trans HF.out.1.head) (Fix.cons ((hset _ (by simp)).trans HF.out.1.tail.head) (Fix.cons (Mem.box_set HF.out.1.tail.tail.head _) (Fix.nil _)))⟩
    · gi_wp2_with (refine ⟨trivial, ?_⟩; gi_at_call 72; refine (CallsIn.inRound l (callsIn_wide.2 (hbel _))).mono ?_; rintro e w' ⟨rfl, rfl⟩)
      exact ⟨KeepsFrom.refl _ _, Keep.refl _ _, ⟨HF.out.2, by rw [HN.out.1, HQ.out]⟩, HF.out.1⟩
  case done =>
    rintro D W hD ⟨⟨hO, hH⟩, hF⟩ hKD
    rw [Hash.several_len] at hH
    have hH' : k.has s.data.toList = true := hH
    have c3 := Mem.box_cell hF.tail.tail.head
    have f3 := Mem.box_free hF.tail.tail.head
    have HD := Lib.hid (And.intro hKD (And.intro hO hH'))
    clear hf ho hseq hK hKD hH hH' hO hF
    gi_wp2
    refine ret1 rfl (v := .bool true) ?_ ?_ ⟨by rw [HD.out.2.2], putObj_below (HD.out.2.1.setCell (p := ⟨w.heap.size + 1, 0, none⟩) (by simp) _) _ (by omega)⟩
    · rw [Below.heap_setCell _ _ _ _ (by simp; omega)]; exact HD.out.1
    · have hc : ((W.setCell ⟨w.heap.size + 1, 0, none⟩ (.bool true)).putObj D (.deferred none)).cell? ⟨w.heap.size + 1, 0, none⟩ = some (.bool true) := by
        rw [putObj_cell _ (by simp; omega)]; exact World.cell?_setCell_same' _ _ _ (by rw [c3]; rfl)
      simp [results, Tryz.results70, go_sem, hc]
  case stop =>
    rintro D c W hD ⟨⟨rfl, hO, hno⟩, hF⟩ hKD
    have c3 := Mem.box_cell hF.tail.tail.head
    have HD := Lib.hid (And.intro hKD (And.intro hO hno))
    clear hf ho hseq hK hKD hO hno hF
    gi_wp2
    refine ret1 rfl (v := .bool false) HD.out.1 ?_ ⟨by rw [HD.out.2.2], putObj_below HD.out.2.1 _ (by omega)⟩
    have hc : (W.putObj D (.deferred none)).cell? ⟨w.heap.size + 1, 0, none⟩ = some (.bool false) := by
      rw [putObj_cell _ (by simp; omega)]; exact c3
    simp [results, Tryz.results70, go_sem, hc]
end Go.Proofs.YtodoglljjhdbeaaGreatDoor.Bloom

/- The walks over layer 4: Add. -/
namespace Go.Proofs.YtodoglljjhdbeaaGreatDoor.Bloom
open Go Go.RowKit Go.Shelf Go.Proofs.YtodoglljjhdbeaaGreatDoor.Mem Go.Proofs.YtodoglljjhdbeaaGreatDoor.Rng Go.Proofs.YtodoglljjhdbeaaGreatDoor.StillIn
attribute [local go_sem] Oper.semAt_some

def blocksA (B b : Nat) (k : St) (s : List UInt8) (i : Nat) : List (Nat × Obj) := [(b, .cells (cells { k with w := adds k.seed s k.w i }) 127 (0, 0)), Mem.box B 106 (.pointer (some ⟨b, 0, none⟩))]
theorem blocksA_cells (B b : Nat) (k : St) (s : List UInt8) (i : Nat) : ∀ p ∈ blocksA B b k s i, p.2.isCells = true := by
  intro p hp
  simp only [blocksA, List.mem_cons, List.not_mem_nil, or_false] at hp
  rcases hp with rfl | rfl <;> rfl
set_option maxRecDepth 100000 in
set_option maxHeartbeats 2000000 in
theorem add_any {w : World} {b : Nat} {k : St} (h : At w b k) (hk : Ok k) (s : ByteArray) (hs : s.size ≤ maxLen) :
    Calls Tryz.prog 49 #[.pointer (some ⟨b, 0, none⟩), .string s] w fun e w' => e = .returned (.bool (k.has s.data.toList)) ∧ At w' b (k.add s.data.toList) ∧ Only (fun j => j = b) w w' := by
  have hbl : b < w.heap.size := (Array.getElem?_eq_some_iff.1 h).1
  have h1 : At (w.alloc (.cells #[.pointer (some ⟨b, 0, none⟩)] 106)) b k := Mem.new_later h _
  have hhas := has_any h1 hk s hs
  refine (callsIn_wide (n := 9)).1 (callsIn_of_wp_marks Tryz.func49 rfl trivial ?_ rfl)
  simp only [Tryz.ntmps49, List.size_toArray, List.length_cons, List.length_nil, Nat.reduceAdd, Nat.reduceSub, Array.replicate_succ, Array.replicate_zero, List.push_toArray, List.append_toArray, List.nil_append, List.cons_append]
  gi_wp2_with fail
  refine ⟨trivial, ?_⟩
  refine (callsIn_wide.2 hhas).mono ?_
  rintro e w1 ⟨rfl, hb1⟩
  have hA1 : At w1 b k := (hb1.block b (by simp; omega)).trans h1
  have hbx : w1.heap[w.heap.size]? = some (.cells #[.pointer (some ⟨b, 0, none⟩)] 106 (0, 0)) := (hb1.block _ (by simp)).trans (Mem.new_block w _)
  have hO1 : Only (fun j => j = b) w w1 := Only.of_below (Mem.tr (Mem.al (Below.refl _ _) _) hb1) fun k h1 h2 => by omega
  have c0 : w1.cell? ⟨b, 0, none⟩ = some (.int .u64 k.seed) := Mem.row_cell hA1 0
  have cx := Mem.box_cell hbx
  have hz1 : w.heap.size < w1.heap.size := (Array.getElem?_eq_some_iff.1 hbx).1
  clear h h1 hhas hb1
  gi_wp2_with fail
  refine ⟨trivial, ?_⟩
  refine (callsIn_wide.2 (Hash.several_gives k.seed 3 s (by omega) hs _)).mono ?_
  rintro e w2 ⟨lb, K, rfl, hseq, hbel, hK⟩
  have hf : Fix w2 (blocksA w.heap.size b k s.data.toList 0) := (Fix.cons (p := (b, .cells (cells k) 127 (0, 0))) hA1 (Fix.cons hbx (Fix.nil _))).below hbel (Nat.le_refl _)
  have ho : Only (fun j => j = b) w w2 := hO1.trans (Only.of_below (F := fun j => j = b) hbel fun k h1 h2 => by omega) (fun _ e => .inl e)
  have hKw : ∀ j, K j → w.heap.size < j := fun j hj => by have := (hK j hj).1; omega
  have hs2 : w.heap.size < w2.heap.size := by have := hbel.size; omega
  clear hbel c0 hA1 hO1 hbx cx
  gi_wp2_with fail
  refine outer rfl (Hash.enters) hseq (Below.refl _ _) (fun k hk => (hK k hk).2) (fun _ => rfl)
    (fun i W => (Only (fun j => j = b) w W ∧ w2.heap.size ≤ W.heap.size) ∧ Fix W (blocksA w.heap.size b k s.data.toList i)) (fun _ _ => False)
    (((own_only (by omega)).and (own_size _ _)).and (own_fix _ _ (blocksA_cells _ _ _ _))) (fun _ _ _ _ h _ _ => h) ⟨⟨ho, Nat.le_refl _⟩, hf⟩ ?a1 ?assign ?body ?done ?stop
  case assign =>
    intro l x W Kc hKc
    simp only [Hash.encIH]
    gi_wp2
    exact hKc
  case stop => exact fun D c W _ h _ => h.elim
  case body =>
    rintro l i x W hl _ ⟨⟨hO, hZ⟩, hF⟩ hx
    obtain ⟨hi, rfl⟩ := Hash.several_inv hx
    have c2 := Mem.box_cell hF.tail.head
    have hpl := pl_lt k.seed s.data.toList i
    have hbel := fun w => Hash.below_any (Hash.nthI k.seed s.data.toList i) 512 (Hash.nthI_range _ _ _).1 (Hash.nthI_range _ _ _).2 (by omega) w
    rw [pl_int] at hbel
    have hnext : adds k.seed s.data.toList k.w (i + 1) = setB (adds k.seed s.data.toList k.w i) (pl k.seed s.data.toList i) := rfl
    obtain ⟨p, hp⟩ : ∃ p, pl k.seed s.data.toList i = p := ⟨_, rfl⟩
    rw [hp] at hbel hnext hpl
    have hlt := adds_lt hk.w k.seed s.data.toList i
    obtain ⟨wd, hwd⟩ : ∃ wd, adds k.seed s.data.toList k.w i = wd := ⟨_, rfl⟩
    have cw : W.cell? ⟨b, 1 + p / 64, none⟩ = some (.int .u64 (wd (p / 64) : Nat)) := by rw [← hwd]; exact (Mem.row_cell hF.head _).trans (cells_word _ (by omega))
    have fw : W.frozen? ⟨b, 1 + p / 64, none⟩ = false := Mem.row_free hF.head _
    rw [hwd] at hnext hlt
    have HN := Lib.hid (And.intro hnext hwd)
    have HF := Lib.hid (And.intro hF hO)
    have HX := Lib.hid (And.intro hK hKw)
    have HV := Lib.hid (hlt (p / 64))
    obtain ⟨v, hv⟩ : ∃ v, wd (p / 64) = v := ⟨_, rfl⟩
    obtain ⟨m, hm⟩ : ∃ m, p / 64 = m := ⟨_, rfl⟩
    obtain ⟨r, hr⟩ : ∃ r, p % 64 = r := ⟨_, rfl⟩
    rw [hv] at cw
    rw [hm] at cw fw
    have hd : (p : Int) / 64 = m := by omega
    have hd0 : (0 : Int) ≤ m := by omega
    have hd1 : (m : Int) < 8 := by omega
    have hdw : IntKind.i64.wrap (m : Int) = m := by rw [IntKind.wrap_i64]; omega
    have hr2 : (p : Int).tmod 64 = r := by rw [Int.tmod_eq_emod_of_nonneg (by omega)]; omega
    have hr0 : (0 : Int) ≤ r := by omega
    have hr1 : (r : Int) < 64 := by omega
    have HM := Lib.hid (And.intro hv (And.intro hm hr))
    clear hF hO hx hf ho hseq hK hKw hl hp hnext hwd hlt hv hm hr
    gi_wp2_with (refine ⟨trivial, ?_⟩; gi_at_call 72; refine (CallsIn.inRound l (callsIn_wide.2 (hbel _))).mono ?_; rintro e w' ⟨rfl, rfl⟩)
    refine wpIn_region_still_tail 14 (by kernel_rfl) (by kernel_rfl) ?_
    simp only [List.take_succ_cons, List.take_zero, List.drop_succ_cons, List.drop_zero]
    repeat still_step
    refine wpStill_nil ?_
    have hor : bits BinOp.or IntKind.u64 (v : Int) (IntKind.u64.wrap (2 ^ r)) = ((v ||| 2 ^ r : Nat) : Int) := by
      have h2 : 2 ^ r < 2 ^ 64 := Nat.pow_lt_pow_right (by omega) (by omega)
      have hv := HV.out
      rw [HM.out.1] at hv
      rw [show (2 : Int) ^ r = ((2 ^ r : Nat) : Int) from by simp, Pop.u64w (by omega), u64_or_nat _ _ (by omega) (by omega)]
    gi_wp2
    rw [hor]
    have hset : ∀ j, j ≠ b → (W.setCell ⟨b, 1 + m, none⟩ (.int .u64 ((v ||| 2 ^ r : Nat) : Int))).heap[j]? = W.heap[j]? := fun j hj => Below.heap_setCell _ _ _ _ hj
    have hO1 : Only (fun j => j = b) W (W.setCell ⟨b, 1 + m, none⟩ (.int .u64 ((v ||| 2 ^ r : Nat) : Int))).drew := ((Only.refl (fun j => j = b) W).setCell (p := ⟨b, 1 + m, none⟩) (.inl rfl) _).drew
    refine ⟨hO1.keepsFrom (fun j e => by omega), hO1.keep (fun j hj => ⟨by have := (HX.out.1 j hj).2; omega, by have := HX.out.2 j hj; omega⟩), ⟨HF.out.2.trans hO1 (fun _ e => .inl e), Nat.le_trans hZ hO1.size⟩, ?_⟩
    refine Fix.cons ?_ (Fix.cons ((hO1.same _ (HF.out.1.lt (p := Mem.box w.heap.size 106 (.pointer (some ⟨b, 0, none⟩))) (by simp [blocksA])) (by simp; omega)).trans HF.out.1.tail.head) (Fix.nil _))
    have h1 := Mem.row_set HF.out.1.head (1 + m) (.int .u64 ((v ||| 2 ^ r : Nat) : Int))
    have hcs : (cells { k with w := adds k.seed s.data.toList k.w i }).setIfInBounds (1 + m) (.int .u64 ((v ||| 2 ^ r : Nat) : Int)) = cells { k with w := adds k.seed s.data.toList k.w (i + 1) } := by
      refine cells_set (by omega) rfl ?_ fun j hj => ?_
      · simp only
        rw [HN.out.1]
        unfold setB
        rw [if_pos HM.out.2.1.symm, ← HM.out.2.1, HM.out.1, HM.out.2.2]
      · simp only
        rw [HN.out.1, HN.out.2]
        unfold setB
        rw [if_neg (fun e => hj (e.trans HM.out.2.1))]
    rw [hcs] at h1
    exact h1
  case done =>
    rintro D W hD ⟨⟨hO, hZ⟩, hF⟩ hKD
    rw [Hash.several_len] at hF
    have hF' : Fix W (blocksA w.heap.size b k s.data.toList 3) := hF
    have HD := Lib.hid (And.intro hKD (And.intro hO hF'))
    clear hf ho hseq hK hKw hF hF' hO hKD
    gi_wp2
    refine ret1 rfl (v := .bool (k.has s.data.toList)) HD.out.1 ?_ ⟨rfl, (World.putObj_heap_other (by omega)).trans HD.out.2.2.head, HD.out.2.1.putObj (.inr (by omega)) _⟩
    simp [results, Tryz.results49, go_sem]
end Go.Proofs.YtodoglljjhdbeaaGreatDoor.Bloom

/- Layer 4's list of calls, as an argument. -/
namespace Go.Proofs.YtodoglljjhdbeaaGreatDoor.Bloom
open Go Go.ChangeShapes Go.WideShapes Go.Deep Go.RowKit Go.Proofs.YtodoglljjhdbeaaGreatDoor.Ops

structure Op where
  kind : Int
  s : ByteArray
def encO (o : Op) : List Value := [.int .i64 o.kind, .string o.s]
def isI (n : Int) : Prop := -9223372036854775808 ≤ n ∧ n ≤ 9223372036854775807
structure OpOk (o : Op) : Prop where
  kind : isI o.kind
  s : o.s.size ≤ maxLen
theorem isI_of {n : Int} (h : (Lit.int .i64 n).wf = true) : isI n := by simpa [isI, Lit.wf, IntKind.min, IntKind.max, IntKind.signed, IntKind.bits] using h

section
variable {H : Type} {enc : TypeId × Value → H} {w : World} {base : Nat} {spare : Nat → Bool} {held : Bool}
end
end Go.Proofs.YtodoglljjhdbeaaGreatDoor.Bloom

/- Layer 4's statements: the chapter's example, short, a filter in a run. -/
namespace Go.Proofs.YtodoglljjhdbeaaGreatDoor.Bloom
open Go Go.RowKit Go.Proofs.YtodoglljjhdbeaaGreatDoor.Mem Go.Proofs.YtodoglljjhdbeaaGreatDoor.Ops

/-- A filter in a run that began at W. -/
structure Run (W w : World) (b : Nat) (k : St) : Prop where
  at_ : At w b k
  low : W.heap.size ≤ b
  below : Below W.heap.size W w
  ok : Ok k
section
variable {W w w' : World} {b : Nat} {k : St}
theorem At.lt (h : At w b k) : b < w.heap.size := (Array.getElem?_eq_some_iff.1 h).1
theorem At.below (h : At w b k) (hb : Below w.heap.size w w') : At w' b k := (hb.block b h.lt).trans h
theorem At.only (h : At w b k) {F : Nat → Prop} (ho : Only F w w') (hF : ¬ F b) : At w' b k := (ho.same b h.lt hF).trans h
theorem Run.step (h : Run W w b k) (hb : Below w.heap.size w w') : Run W w' b k := ⟨h.at_.below hb, h.low, Mem.tr h.below hb, h.ok⟩
theorem Run.turn {k' : St} (h : Run W w b k) (ha : At w' b k') (ho : Only (fun j => j = b) w w') (hk : Ok k') : Run W w' b k' :=
  ⟨ha, h.low, h.below.trans (ho.below h.below.size (fun _ e => e ▸ h.low)), hk⟩
theorem Run.other {F : Nat → Prop} (h : Run W w b k) (ho : Only F w w') (hF : ∀ j, F j → b ≠ j ∧ W.heap.size ≤ j) : Run W w' b k :=
  ⟨h.at_.only ho (fun e => (hF _ e).1 rfl), h.low, h.below.trans (ho.below h.below.size (fun _ e => (hF _ e).2)), h.ok⟩
end
theorem new_run {seed : Int} (h0 : 0 ≤ seed ∧ seed ≤ 18446744073709551615) {W w : World} (hb : Below W.heap.size W w) : Calls Tryz.prog 43 #[.int .u64 seed] w fun e w' =>
    ∃ b : Nat, e = .returned (.pointer (some ⟨b, 0, none⟩)) ∧ Run W w' b (new seed) ∧ w.heap.size ≤ b ∧ Below w.heap.size w w' :=
  (new_gives seed w).mono fun _ _ ⟨b, he, ha, hl, hw⟩ => ⟨b, he, ⟨ha, Nat.le_trans hb.size hl, Mem.tr hb hw, Ok.new h0.1 (by omega)⟩, hl, hw⟩
theorem add_run {W w : World} {b : Nat} {k : St} (h : Run W w b k) (s : ByteArray) (hs : s.size ≤ maxLen) : Calls Tryz.prog 49 #[.pointer (some ⟨b, 0, none⟩), .string s] w fun e w' =>
    e = .returned (.bool (k.has s.data.toList)) ∧ Run W w' b (k.add s.data.toList) ∧ Only (fun j => j = b) w w' :=
  (add_any h.at_ h.ok s hs).mono fun _ _ ⟨he, ha, ho⟩ => ⟨he, h.turn ha ho (h.ok.add _), ho⟩
theorem has_run {W w : World} {b : Nat} {k : St} (h : Run W w b k) (s : ByteArray) (hs : s.size ≤ maxLen) : Calls Tryz.prog 70 #[.pointer (some ⟨b, 0, none⟩), .string s] w fun e w' =>
    e = .returned (.bool (k.has s.data.toList)) ∧ Run W w' b k ∧ Below w.heap.size w w' :=
  (has_any h.at_ h.ok s hs).mono fun _ _ ⟨he, hb⟩ => ⟨he, h.step hb, hb⟩
theorem clear_run {W w : World} {b : Nat} {k : St} (h : Run W w b k) : Calls Tryz.prog 51 #[.pointer (some ⟨b, 0, none⟩)] w fun e w' =>
    e = .returned (.tuple #[]) ∧ Run W w' b k.clear ∧ Only (fun j => j = b) w w' :=
  (clear_any h.at_).mono fun _ _ ⟨he, ha, ho⟩ => ⟨he, h.turn ha ho h.ok.clear, ho⟩
def Shorts (l : List Op) (n : Int) : Prop := (l.length : Int) ≤ n ∧ ∀ o ∈ l, o.s.size ≤ 300
def SaysShort (l : List Op) (n : Int) (e : Ending) : Prop := ∃ q : Bool, e = .returned (.bool q) ∧ (q = true ↔ Shorts l n)
end Go.Proofs.YtodoglljjhdbeaaGreatDoor.Bloom

