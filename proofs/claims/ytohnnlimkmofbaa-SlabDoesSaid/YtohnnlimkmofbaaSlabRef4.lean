/- The document's own slab of layer 7: appends of chunks at a plain region; Free. -/
import Derived.Test.YtohnnlimkmofbaaSlabRef3
import Derived.Deep.RegionLaw
import Derived.Deep.CutRange
namespace Go.Proofs.Ytohnnlimkmofbaa.RefSlab
open Go Go.RowKit Go.Proofs.Ytohnnlimkmofbaa.Slab Go.Proofs.Ytohnnlimkmofbaa.Mem

/-- append of chunks that lie somewhere onto chunks of the call's own, at a plain region. -/
theorem list_appC {w : World} {ops : Array Oper} {rest : List Oper} {o : Oper} {a : Act} {Q : Exit → Act → World → Prop} (s x : Operand) (base : Nat) (v : Value) (xs ys : List (Int × Int)) (g off c : Nat) (hgd : o.guard = none)
    (ho : o.op = .call { callee := .builtin .append, args := #[s, x], argTypes := #[31, 31] }) (hs : a.eval s = v) (hx : a.eval x = .slice (some ⟨g, off, none⟩) ys.length c)
    (hown : w.ownsRow base 34 2 v xs.length (cellsC xs)) (hr : ReadsC w g off ys) (hb : xs.length + ys.length ≤ 1000000000) (hbase : base ≤ w.heap.size)
    (hK : ∀ v' w', w'.ownsRow base 34 2 v' (xs ++ ys).length (cellsC (xs ++ ys)) → w.grownBy w' v.ownBlock → (v'.ownBlock = v.ownBlock ∨ v'.ownBlock = some w.heap.size) → wpList Try.prog ops Q rest (a.put o.dst v') w') :
    wpList Try.prog ops Q (o :: rest) a w := by
  obtain ⟨i0, hi, hz0, hz1, hz2⟩ := info_parts infoChunk
  obtain ⟨v', w', hrun, h2, h3, _, h5⟩ := run_append_own_at (P := Try.prog) w base 31 o.type 34 i0 _ 2 16 Try.underlying31 hi hz0 hz1 hz2 rfl (by decide) v xs.length (cellsC xs) hown ⟨g, off, none⟩ ys.length c (cellsC ys) (cellsC_len ys) (fun j u hu => by rw [addr_add]; exact hr j u hu) (one_cellsC ys)
    (by unfold maxLen; omega) (by omega) hbase
  refine wpList_plain hgd fun K hKK => ?_
  unfold Oper.wp
  simp [execOp, ho, resolve, invoke, builtin, hs, hx, hrun, Result.andThen]
  exact hKK _ _ (hK v' w' (by rw [List.length_append, cellsC_app]; exact h2) h3 h5)
theorem row_not {w : World} {e t : TypeId} {size n k : Nat} {v : Value} {xs : List Value} {cs : Array Value} (h : w.ownsRow 0 e size v n xs) (hk : w.heap[k]? = some (.cells cs t (0, 0))) (hne : e ≠ t) : v.ownBlock ≠ some k := fun e1 => by
  rcases h.2 with ⟨q, _⟩ | ⟨g1, cap, cur, q, _, b1, _⟩
  · rw [q] at e1; cases e1
  · rw [q] at e1
    have : g1 = k := by simpa [Value.ownBlock] using e1
    subst this
    rw [b1] at hk
    injection hk with hk
    injection hk with _ hk
    exact hne hk
section
variable {w w' : World} {b : Nat} {F : Nat → Prop} {r : RSt} {vi vg v' : Value} {gm : Nat} {xs : List (Int × Int)}
/-- A new list of what is in use. -/
theorem RAtW.inn (h : RAtW w b F r vi vg gm) (hs : ∀ k, F k → vi.ownBlock ≠ some k → w'.heap[k]? = w.heap[k]?) (hz : w.heap.size ≤ w'.heap.size) (hown : w'.ownsRow 0 34 2 v' xs.length (cellsC xs))
    (hat : ∀ g, v'.ownBlock = some g → vi.ownBlock = some g ∨ w.heap.size ≤ g) : RAtW (w'.setCell ⟨b, 1, none⟩ v') b (fun j => F j ∨ v'.ownBlock = some j) { r with inn := xs } v' vg gm := by
  have hvb : vi.ownBlock ≠ some b := row_not h.ri h.blk (by decide)
  have hvm : vi.ownBlock ≠ some gm := row_not h.ri h.mad (by decide)
  have hbm : gm ≠ b := fun e => by have h1 := h.blk; rw [← e, h.mad] at h1; injection h1 with h1; injection h1 with _ h1; exact absurd h1 (by decide)
  have hvg : vg.ownBlock ≠ some b := row_not h.rg h.blk (by decide)
  have hnb : v'.ownBlock ≠ some b := fun e => (hat b e).elim hvb (fun e1 => by have := h.lt b h.fb; omega)
  have hset : ∀ k, k ≠ b → (w'.setCell ⟨b, 1, none⟩ v').heap[k]? = w'.heap[k]? := fun k hk => Below.heap_setCell _ _ _ _ hk
  refine ⟨?_, (hset gm hbm).trans ((hs gm h.fm hvm).trans h.mad), row_same hown fun g e => hset g (fun e1 => hnb (e1 ▸ e)), row_same h.rg fun g e => (hset g (fun e1 => hvg (e1 ▸ e))).trans (hs g (h.fg g e) (fun e1 => h.apart g e1 e)), .inl h.fb, .inl h.fm, fun g e => .inr e, fun g e => .inl (h.fg g e), fun g e e1 => ?_, fun k hk => ?_⟩
  · have := Mem.row_set ((hs b h.fb hvb).trans h.blk) 1 v'
    exact this
  · exact (hat g e).elim (fun e2 => h.apart g e2 e1) (fun e2 => by have := h.lt g (h.fg g e1); omega)
  · rw [show (w'.setCell ⟨b, 1, none⟩ v').heap.size = w'.heap.size from by simp [World.setCell]]
    exact hk.elim (fun e => Nat.lt_of_lt_of_le (h.lt k e) hz) (fun e => (ownsRow_lt hown k e).2)
/-- A new list of what was let go. -/
theorem RAtW.gne (h : RAtW w b F r vi vg gm) (hs : ∀ k, F k → vg.ownBlock ≠ some k → w'.heap[k]? = w.heap[k]?) (hz : w.heap.size ≤ w'.heap.size) (hown : w'.ownsRow 0 34 2 v' xs.length (cellsC xs))
    (hat : ∀ g, v'.ownBlock = some g → vg.ownBlock = some g ∨ w.heap.size ≤ g) : RAtW (w'.setCell ⟨b, 2, none⟩ v') b (fun j => F j ∨ v'.ownBlock = some j) { r with gone := xs } vi v' gm := by
  have hvb : vg.ownBlock ≠ some b := row_not h.rg h.blk (by decide)
  have hvm : vg.ownBlock ≠ some gm := row_not h.rg h.mad (by decide)
  have hbm : gm ≠ b := fun e => by have h1 := h.blk; rw [← e, h.mad] at h1; injection h1 with h1; injection h1 with _ h1; exact absurd h1 (by decide)
  have hvi : vi.ownBlock ≠ some b := row_not h.ri h.blk (by decide)
  have hnb : v'.ownBlock ≠ some b := fun e => (hat b e).elim hvb (fun e1 => by have := h.lt b h.fb; omega)
  have hset : ∀ k, k ≠ b → (w'.setCell ⟨b, 2, none⟩ v').heap[k]? = w'.heap[k]? := fun k hk => Below.heap_setCell _ _ _ _ hk
  refine ⟨?_, (hset gm hbm).trans ((hs gm h.fm hvm).trans h.mad), row_same h.ri fun g e => (hset g (fun e1 => hvi (e1 ▸ e))).trans (hs g (h.fi g e) (fun e1 => h.apart g e e1)), row_same hown fun g e => hset g (fun e1 => hnb (e1 ▸ e)), .inl h.fb, .inl h.fm, fun g e => .inl (h.fi g e), fun g e => .inr e, fun g e e1 => ?_, fun k hk => ?_⟩
  · have := Mem.row_set ((hs b h.fb hvb).trans h.blk) 2 v'
    exact this
  · exact (hat g e1).elim (fun e2 => h.apart g e e2) (fun e2 => by have := h.lt g (h.fi g e); omega)
  · rw [show (w'.setCell ⟨b, 2, none⟩ v').heap.size = w'.heap.size from by simp [World.setCell]]
    exact hk.elim (fun e => Nat.lt_of_lt_of_le (h.lt k e) hz) (fun e => (ownsRow_lt hown k e).2)
end
theorem erase_first {α : Type} [BEq α] [LawfulBEq α] : ∀ (l : List α) (j : Nat) (c : α), c ∉ l.take j → l[j]? = some c → l.erase c = l.take j ++ l.drop (j + 1)
  | [], j, c, _, h => by simp at h
  | d :: l, 0, c, _, h => by simp at h; subst h; simp
  | d :: l, j + 1, c, hn, h => by
    have hne : (d == c) = false := by simp; exact fun e => hn (by simp [e])
    rw [List.erase_cons, hne, erase_first l j c (fun h1 => hn (by simp [h1])) (by simpa using h)]
    simp
end Go.Proofs.Ytohnnlimkmofbaa.RefSlab
