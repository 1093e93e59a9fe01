/- The document's own list of layer 8: has, Add, Remove. -/
import Derived.Test.YtpppknopbjpciaaSlruRef1
namespace Go.Proofs.Ytpppknopbjpciaa.RefSlru
open Go Go.RowKit Go.Proofs.Ytpppknopbjpciaa.Slru Go.Proofs.Ytpppknopbjpciaa.Mem

def rlistObj (most : Int) (vt vs : Value) : Obj := .cells #[.int .i64 most, vt, vs] 38 (0, 0)
abbrev Own (w : World) (v : Value) (xs : List ByteArray) : Prop := w.ownsRow 0 9 1 v xs.length (cellsK xs)
structure RAtW (w : World) (b : Nat) (G : Nat → Prop) (s : St) (vt vs : Value) : Prop where
  blk : w.heap[b]? = some (rlistObj s.most vt vs)
  rt : Own w vt s.trial
  rs : Lk w vs s.safe
  gb : G b
  gt : ∀ g, vt.ownBlock = some g → G g
  gs : ∀ g, vs.ownBlock = some g → G g
  ap : ∀ g, vt.ownBlock = some g → vs.ownBlock ≠ some g
  sb : vs.ownBlock ≠ some b
  lt : ∀ k, G k → k < w.heap.size
def RAt (w : World) (b : Nat) (G : Nat → Prop) (s : St) : Prop := ∃ vt vs, RAtW w b G s vt vs
theorem row_not {w : World} {e t : TypeId} {base size n k : Nat} {v : Value} {xs : List Value} {cs : Array Value} (h : w.ownsRow base e size v n xs) (hk : w.heap[k]? = some (.cells cs t (0, 0))) (hne : e ≠ t) : v.ownBlock ≠ some k := fun e1 => by
  rcases h.2 with ⟨q, _⟩ | ⟨g1, cap, cur, q, _, b1, _⟩
  · rw [q] at e1; cases e1
  · rw [q] at e1
    have : g1 = k := by simpa [Value.ownBlock] using e1
    subst this
    rw [b1] at hk
    injection hk with hk
    injection hk with _ hk
    exact hne hk
section
variable {w w' : World} {b : Nat} {G : Nat → Prop} {s : St} {vt vs v va vb : Value} {xs ys : List ByteArray} {k : ByteArray}
theorem RAtW.tb (h : RAtW w b G s vt vs) : vt.ownBlock ≠ some b := row_not h.rt h.blk (by decide)
theorem RAtW.same (h : RAtW w b G s vt vs) (hs : ∀ k, G k → w'.heap[k]? = w.heap[k]?) (hz : w.heap.size ≤ w'.heap.size) : RAtW w' b G s vt vs :=
  ⟨(hs _ h.gb).trans h.blk, row_same h.rt fun g e => hs g (h.gt g e), h.rs.same (fun g e => hs g (h.gs g e)) hz, h.gb, h.gt, h.gs, h.ap, h.sb, fun k hk => Nat.lt_of_lt_of_le (h.lt k hk) hz⟩
theorem RAtW.below (h : RAtW w b G s vt vs) (hb : Below w.heap.size w w') : RAtW w' b G s vt vs := h.same (fun k hk => hb.block k (h.lt k hk)) hb.size
theorem RAt.same (h : RAt w b G s) (hs : ∀ k, G k → w'.heap[k]? = w.heap[k]?) (hz : w.heap.size ≤ w'.heap.size) : RAt w' b G s := by
  obtain ⟨vt, vs, h⟩ := h
  exact ⟨vt, vs, h.same hs hz⟩
theorem RAt.lt (h : RAt w b G s) : ∀ k, G k → k < w.heap.size := by obtain ⟨_, _, h⟩ := h; exact h.lt
theorem RAt.below (h : RAt w b G s) (hb : Below w.heap.size w w') : RAt w' b G s := h.same (fun k hk => hb.block k (h.lt k hk)) hb.size
theorem RAt.only {F : Nat → Prop} (h : RAt w b G s) (ho : Only F w w') (hd : ∀ k, G k → ¬ F k) : RAt w' b G s := h.same (fun k hk => ho.same k (h.lt k hk) (hd k hk)) ho.size
/-- A new row on trial. -/
theorem RAtW.setTrial (h : RAtW w b G s vt vs) (hs : ∀ k, G k → vt.ownBlock ≠ some k → w'.heap[k]? = w.heap[k]?) (hz : w.heap.size ≤ w'.heap.size) (hown : Own w' v xs) (hat : ∀ g, v.ownBlock = some g → vt.ownBlock = some g ∨ w.heap.size ≤ g) :
    RAtW (w'.setCell ⟨b, 1, none⟩ v) b (fun j => G j ∨ v.ownBlock = some j) { s with trial := xs } v vs := by
  have hnb : v.ownBlock ≠ some b := fun e => (hat b e).elim h.tb (fun e1 => by have := h.lt b h.gb; omega)
  have hset : ∀ k, k ≠ b → (w'.setCell ⟨b, 1, none⟩ v).heap[k]? = w'.heap[k]? := fun k hk => set_far hk
  have hz2 : (w'.setCell ⟨b, 1, none⟩ v).heap.size = w'.heap.size := set_size _ _ _
  have hsv : ∀ g, vs.ownBlock = some g → (w'.setCell ⟨b, 1, none⟩ v).heap[g]? = w.heap[g]? := fun g e => (hset g (fun e1 => h.sb (e1 ▸ e))).trans (hs g (h.gs g e) (fun e1 => h.ap g e1 e))
  refine ⟨Mem.row_set ((hs b h.gb h.tb).trans h.blk) 1 v, row_same hown fun g e => hset g (fun e1 => hnb (e1 ▸ e)), h.rs.same hsv (by rw [hz2]; exact hz), .inl h.gb, fun g e => .inr e, fun g e => .inl (h.gs g e), fun g e e1 => ?_, h.sb, fun j hj => ?_⟩
  · exact (hat g e).elim (fun e2 => h.ap g e2 e1) (fun e2 => by have := h.lt g (h.gs g e1); omega)
  · rw [hz2]
    exact hj.elim (fun e => Nat.lt_of_lt_of_le (h.lt j e) hz) (fun e => (own_lt hown j e).2)
/-- A new row of the safe ones. -/
theorem RAtW.setSafe (h : RAtW w b G s vt vs) (hs : ∀ k, G k → vs.ownBlock ≠ some k → w'.heap[k]? = w.heap[k]?) (hz : w.heap.size ≤ w'.heap.size) (hown : Lk w' v xs) (hat : ∀ g, v.ownBlock = some g → vs.ownBlock = some g ∨ w.heap.size ≤ g) :
    RAtW (w'.setCell ⟨b, 2, none⟩ v) b (fun j => G j ∨ v.ownBlock = some j) { s with safe := xs } vt v := by
  have hnb : v.ownBlock ≠ some b := fun e => (hat b e).elim h.sb (fun e1 => by have := h.lt b h.gb; omega)
  have hset : ∀ k, k ≠ b → (w'.setCell ⟨b, 2, none⟩ v).heap[k]? = w'.heap[k]? := fun k hk => set_far hk
  have hz2 : (w'.setCell ⟨b, 2, none⟩ v).heap.size = w'.heap.size := set_size _ _ _
  refine ⟨Mem.row_set ((hs b h.gb h.sb).trans h.blk) 2 v, row_same h.rt fun g e => (hset g (fun e1 => h.tb (e1 ▸ e))).trans (hs g (h.gt g e) (h.ap g e)), hown.same (fun g e => hset g (fun e1 => hnb (e1 ▸ e))) (by rw [hz2]; exact Nat.le_refl _), .inl h.gb, fun g e => .inl (h.gt g e), fun g e => .inr e, fun g e e1 => ?_, hnb, fun j hj => ?_⟩
  · exact (hat g e1).elim (fun e2 => h.ap g e e2) (fun e2 => by have := h.lt g (h.gt g e); omega)
  · rw [hz2]
    exact hj.elim (fun e => Nat.lt_of_lt_of_le (h.lt j e) hz) (fun e => hown.lt j e)
end
def RTurn (w : World) (b : Nat) (G : Nat → Prop) (y : Int × St) (e : Ending) (w' : World) : Prop := ∃ G', e = .returned (.int .i64 y.1) ∧ RAt w' b G' y.2 ∧ Only G w w' ∧ Grows w G G'
theorem in_all (s : St) (k : ByteArray) : (decide (k ∈ s.trial) || decide (k ∈ s.safe)) = decide (k ∈ s.all) := by
  unfold St.all
  by_cases h1 : k ∈ s.trial <;> by_cases h2 : k ∈ s.safe <;> simp [h1, h2]
set_option maxHeartbeats 1000000 in
theorem has_any {w : World} {b : Nat} {G : Nat → Prop} {s : St} (h : RAt w b G s) (k : ByteArray) (hl : s.all.length ≤ 100000000) :
    Calls Try.prog 28 #[.pointer (some ⟨b, 0, none⟩), .string k] w fun e w' => e = .returned (.bool (decide (k ∈ s.all))) ∧ Below w.heap.size w w' := by
  obtain ⟨vt, vs, h⟩ := h
  have hl2 : s.trial.length + s.safe.length ≤ 100000000 := by unfold St.all at hl; rwa [List.length_append] at hl
  rw [← in_all]
  have c1 := Mem.row_cell h.blk 1
  simp only [List.getElem?_toArray, List.getElem?_cons_zero, List.getElem?_cons_succ] at c1
  have hw1 := without_any (Lk.of_row h.rt) k (by omega)
  unfold WithoutPost at hw1
  obtain ⟨q1, hq1⟩ : ∃ q1, decide (k ∈ s.trial) = q1 := ⟨_, rfl⟩
  obtain ⟨q2, hq2⟩ : ∃ q2, decide (k ∈ s.safe) = q2 := ⟨_, rfl⟩
  rw [hq1] at hw1
  rw [hq1, hq2]
  have HQ := Lib.hid hq2
  have HH := Lib.hid h
  clear h hl hq1 hq2
  go_enter Try.func28, Try.ntmps28
  go_wp2_with fail
  refine hw1.mono ?_
  rintro e w1 ⟨va, rfl, -, hb1⟩
  have h1 := HH.out.below hb1
  have c2 := Mem.row_cell h1.blk 2
  simp only [List.getElem?_toArray, List.getElem?_cons_zero, List.getElem?_cons_succ] at c2
  have hw2 := without_any h1.rs k (by omega)
  unfold WithoutPost at hw2
  rw [HQ.out] at hw2
  clear c1 hw1 h1
  go_wp2_with fail
  refine hw2.mono ?_
  rintro e w2 ⟨vb, rfl, -, hb2⟩
  have hbb := Mem.tr hb1 hb2
  clear hw2 c2 hb2
  cases q1
  · cases q2
    · go_wp2_with fail
      go_ret
      exact ⟨rfl, hbb⟩
    · go_wp2_with fail
      go_ret
      exact ⟨rfl, hbb⟩
  · go_wp2_with fail
    go_ret
    exact ⟨rfl, hbb⟩
set_option maxHeartbeats 1000000 in
theorem add_any {w : World} {b : Nat} {G : Nat → Prop} {s : St} (h : RAt w b G s) (k : ByteArray) (hl : s.all.length ≤ 100000000) :
    Calls Try.prog 16 #[.pointer (some ⟨b, 0, none⟩), .string k] w (RTurn w b G (s.add k)) := by
  have hat := h
  have hhas := has_any h k hl
  have hl2 : s.trial.length ≤ 100000000 := by unfold St.all at hl; rw [List.length_append] at hl; omega
  by_cases hk : k ∈ s.all
  · have e : s.add k = (7, s) := by unfold St.add; rw [if_pos hk]
    have hd : decide (k ∈ s.all) = true := by simpa using hk
    rw [hd] at hhas
    have HF := Lib.hid (show ∀ w', Below w.heap.size w w' → RTurn w b G (s.add k) (.returned (.int .i64 7)) w' from fun w' hb => by rw [e]; exact ⟨G, rfl, hat.below hb, Only.of_below hb (fun k h1 h2 => by omega), Grows.refl _ _⟩)
    clear h hat hl hk hd e
    go_enter Try.func16, Try.ntmps16
    go_wp2_with fail
    refine hhas.mono ?_
    rintro e w1 ⟨rfl, hb1⟩
    go_wp2_with fail
    go_ret
    exact HF.out _ hb1
  have e : s.add k = (0, { s with trial := s.trial ++ [k] }) := by unfold St.add; rw [if_neg hk]
  have hd : decide (k ∈ s.all) = false := by simpa using hk
  rw [hd] at hhas
  rw [e]
  clear hl hk hd e hat
  go_enter Try.func16, Try.ntmps16
  go_wp2_with fail
  refine hhas.mono ?_
  rintro e w1 ⟨rfl, hb1⟩
  obtain ⟨vt, vs, h⟩ := h
  have h1 := h.below hb1
  have c1 := Mem.row_cell h1.blk 1
  simp only [List.getElem?_toArray, List.getElem?_cons_zero, List.getElem?_cons_succ] at c1
  have hlk : Lk (w1.alloc (.cells #[.string k] 9)) (.slice (some ⟨w1.heap.size, 0, none⟩) [k].length 1) [k] := .inr ⟨w1.heap.size, 0, 1, rfl, Nat.le_refl _, by simp, fun i x hi => by
    have : i = 0 := by have := (List.getElem?_eq_some_iff.1 hi).1; simp at this; exact this
    subst this
    simp at hi
    subst hi
    exact Mem.box_cell (Mem.new_block w1 _)⟩
  have hrow := h1.rt.alloc (.cells #[.string k] 9)
  have hafter : ∀ v' (w3 : World), Own w3 v' (s.trial ++ [k]) → (w1.alloc (.cells #[.string k] 9)).grownBy w3 vt.ownBlock → (v'.ownBlock = vt.ownBlock ∨ v'.ownBlock = some (w1.alloc (.cells #[.string k] 9)).heap.size) →
      (∃ a c, v' = .slice a (s.trial.length + 1) c) ∧ w3.heap[b]? = some (rlistObj s.most vt vs) ∧ RTurn w b G (0, { s with trial := s.trial ++ [k] }) (.returned (.int .i64 0)) (w3.setCell ⟨b, 1, none⟩ v') := fun v' w3 hown hg hat => by
    have hs3 : w1.heap.size + 1 ≤ w3.heap.size := by have := hg.size; simp at this; omega
    have hsm : ∀ j, G j → vt.ownBlock ≠ some j → w3.heap[j]? = w1.heap[j]? := fun j hj hn => (hg.block j (by have := h1.lt j hj; simp; omega) (Ne.symm hn)).trans (Below.heap_alloc _ _ _ (h1.lt j hj))
    have hat' : ∀ g, v'.ownBlock = some g → vt.ownBlock = some g ∨ w1.heap.size ≤ g := fun g e => hat.imp (fun e1 => by rw [← e1]; exact e) (fun e1 => by rw [e1] at e; injection e with e; simp at e; omega)
    refine ⟨?_, (hsm b h1.gb h1.tb).trans h1.blk, _, rfl, ⟨_, _, h1.setTrial hsm (by omega) hown hat'⟩, ?_, fun j hj => ?_⟩
    · rcases hown.2 with ⟨e1, e2⟩ | ⟨g, cap, cur, e1, _⟩
      · simp at e2
      · exact ⟨_, _, by rw [e1, List.length_append]; rfl⟩
    · exact ((((Only.of_below (F := G) hb1 (fun k h1 h2 => by omega)).alloc _).grown hg (fun g e => .inl (h1.gt g e))).setCell (p := ⟨b, 1, none⟩) (.inl h1.gb) _)
    · rcases hj with e | e
      · exact .inl e
      · exact (hat' j e).elim (fun e => .inl (h1.gt j e)) (fun e => .inr (by have := hb1.size; omega))
  have HA := Lib.hid (And.intro hrow (And.intro hlk hafter))
  clear h h1 hb1 hhas hlk hrow hafter
  go_wp2_with (at_builtin; refine list_appK _ _ 0 vt _ s.trial [k] rfl rfl rfl rfl HA.out.1 HA.out.2.1 (by simp; omega) (Nat.zero_le _) ?_; intro v' w3 hown hg hat; obtain ⟨⟨ya, yc, rfl⟩, hb3, hres⟩ := HA.out.2.2 v' w3 hown hg hat; have c3 := Mem.row_cell hb3 1; have f3 := Mem.row_free hb3 1; have HR := Lib.hid hres)
  go_ret
  exact HR.out
end Go.Proofs.Ytpppknopbjpciaa.RefSlru
