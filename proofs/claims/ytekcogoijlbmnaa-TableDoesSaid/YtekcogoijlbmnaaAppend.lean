/- append of whatever lies behind a slice (of none of it, too) onto a row of the call's own. -/
import Derived.Test.YtekcogoijlbmnaaMem
import Derived.Deep.AppendLies
import Derived.Laws.OwnMore
import Derived.WalkKit
namespace Go.Proofs.Ytekcogoijlbmnaa.App
open Go Go.RowKit

/-- The cells ys lie behind the slice y of m elements. -/
def Src (w : World) (size : Nat) (y : Value) (m : Nat) (ys : List Value) : Prop := (y = .slice none 0 0 ∧ ys = [] ∧ m = 0) ∨
  ∃ g off c, y = .slice (some ⟨g, off, none⟩) m c ∧ ys.length = m * size ∧ g < w.heap.size ∧ ∀ j u, ys[j]? = some u → w.cell? ⟨g, off + j, none⟩ = some u
theorem Src.same {w w' : World} {size m : Nat} {y : Value} {ys : List Value} (h : Src w size y m ys) (hs : ∀ g, y.ownBlock = some g → w'.heap[g]? = w.heap[g]?) (hz : w.heap.size ≤ w'.heap.size) : Src w' size y m ys := by
  rcases h with h | ⟨g, off, c, rfl, h1, h2, h3⟩
  · exact .inl h
  · exact .inr ⟨g, off, c, rfl, h1, Nat.lt_of_lt_of_le h2 hz, fun j u hu => (World.cell?_of_block (hs g rfl)).trans (h3 j u hu)⟩
theorem Src.lt {w : World} {size m : Nat} {y : Value} {ys : List Value} (h : Src w size y m ys) : ∀ g, y.ownBlock = some g → g < w.heap.size := fun g e => by
  rcases h with ⟨rfl, _⟩ | ⟨g', off, c, rfl, _, h2, _⟩
  · cases e
  · have : g' = g := by simpa [Value.ownBlock] using e
    omega
theorem Src.below {w w' : World} {size m : Nat} {y : Value} {ys : List Value} (h : Src w size y m ys) (hb : Below w.heap.size w w') : Src w' size y m ys := h.same (fun g e => hb.block g (h.lt g e)) hb.size
theorem Src.of_row {w : World} {base size n : Nat} {e : TypeId} {v : Value} {xs : List Value} (h : w.ownsRow base e size v n xs) : Src w size v n xs := by
  rcases h.2 with ⟨e1, e2⟩ | ⟨g, cap, cur, e1, _, e2, e3, _, e4, e5⟩
  · refine .inl ⟨e1, List.eq_nil_of_length_eq_zero ?_, e2⟩
    rw [h.1, e2, Nat.zero_mul]
  · refine .inr ⟨g, 0, cap, e1, h.1, (Array.getElem?_eq_some_iff.1 e2).1, fun j u hu => ?_⟩
    rw [Nat.zero_add, Mem.row_cell e2 j]
    have hj := (List.getElem?_eq_some_iff.1 hu).1
    rw [h.1] at hj
    rw [← e5, List.getElem?_take, if_pos hj, Array.getElem?_toList] at hu
    exact hu
theorem Src.shape {w : World} {size m : Nat} {y : Value} {ys : List Value} (h : Src w size y m ys) : ∃ a c, y = .slice a m c := by
  rcases h with ⟨rfl, _, rfl⟩ | ⟨g, off, c, rfl, _⟩
  · exact ⟨none, 0, rfl⟩
  · exact ⟨_, c, rfl⟩
theorem grown_refl (w : World) (row : Option Nat) : w.grownBy w row := ⟨rfl, rfl, rfl, Nat.le_refl _, fun _ _ _ => rfl⟩
theorem addr_add (g off j : Nat) : (⟨g, off, none⟩ : Addr).add j = ⟨g, off + j, none⟩ := by
  unfold Addr.add
  by_cases h : j = 0
  · subst h; rfl
  · rw [if_neg h]
theorem own_block_lt {w : World} {base : Nat} {e : TypeId} {size n : Nat} {v : Value} {xs : List Value} (h : w.ownsRow base e size v n xs) : ∀ g, v.ownBlock = some g → base ≤ g ∧ g < w.heap.size := fun g e => by
  rcases h.2 with ⟨e1, _⟩ | ⟨g', cap, cur, e1, h2, e2, _⟩
  · rw [e1] at e; cases e
  · rw [e1] at e
    have : g' = g := by simpa [Value.ownBlock] using e
    subst this
    exact ⟨h2, (Array.getElem?_eq_some_iff.1 e2).1⟩
/-- What the second type says is that it is a slice's. -/
theorem append_types {P : Program} {t t' ty e e' : TypeId} {v y : Value} {w : World} (ht : P.underlying t = some (.slice e)) (ht' : P.underlying t' = some (.slice e')) : (Builtin.append_ #[t, t'] ty #[v, y]).run P w = (Builtin.append_ #[t, t] ty #[v, y]).run P w := by
  cases v <;> simp [Builtin.append_, run_underlying ht, run_underlying ht']
/-- at a plain region. -/
theorem wpList_append_src {P : Program} {w : World} {ops : Array Oper} {rest : List Oper} {o : Oper} {a : Act} {Q : Exit → Act → World → Prop} (s x : Operand) (t t' e e' : TypeId) (i : TypeInfo) (z : Value) (size bytes base : Nat) (v y : Value) (n m : Nat) (xs ys : List Value) (hgd : o.guard = none)
    (ho : o.op = .call { callee := .builtin .append, args := #[s, x], argTypes := #[t, t'] }) (ht : P.underlying t = some (.slice e)) (ht' : P.underlying t' = some (.slice e')) (hi : P.info? e = some i) (hz : i.zero = some z) (hsize : i.size = size) (hby : i.bytes = bytes) (hzs : z.cells.size = size) (hsz : 0 < size)
    (hs : a.eval s = v) (hx : a.eval x = y) (hown : w.ownsRow base e size v n xs) (hr : Src w size y m ys) (h1 : ∀ u ∈ ys, u.oneCell' = true) (h63 : n + m ≤ maxLen) (hbytes : (n + m) * bytes ≤ 140737488355328) (hbase : base ≤ w.heap.size)
    (hK : ∀ v' w', w'.ownsRow base e size v' (n + m) (xs ++ ys) → w.grownBy w' v.ownBlock → (v'.ownBlock = v.ownBlock ∨ v'.ownBlock = some w.heap.size) → wpList P ops Q rest (a.put o.dst v') w') :
    wpList P ops Q (o :: rest) a w := by
  have hrun0 := append_types (P := P) (ty := o.type) (v := v) (y := y) (w := w) ht ht'
  refine wpList_plain hgd fun K hKK => ?_
  rcases hr with ⟨e1, rfl, rfl⟩ | ⟨g, off, c, e1, h2, h3, h4⟩
  · have hrun := run_append_owned_none (P := P) (w := w) base t o.type e i size ht hi v n xs hown
    rw [← e1, ← hrun0] at hrun
    unfold Oper.wp
    simp [execOp, ho, resolve, invoke, builtin, hs, hx, hrun, Result.andThen]
    exact hKK _ _ (hK v w (by rw [List.append_nil]; exact hown) (grown_refl _ _) (.inl rfl))
  · obtain ⟨v', w', hrun, h5, h6, _, h7⟩ := run_append_own_at (P := P) w base t o.type e i z size bytes ht hi hz hsize hby hzs hsz v n xs hown ⟨g, off, none⟩ m c ys h2
      (fun j u hu => by rw [addr_add]; exact h4 j u hu) h1 h63 hbytes hbase
    rw [← e1, ← hrun0] at hrun
    unfold Oper.wp
    simp [execOp, ho, resolve, invoke, builtin, hs, hx, hrun, Result.andThen]
    exact hKK _ _ (hK v' w' h5 h6 h7)
end Go.Proofs.Ytekcogoijlbmnaa.App
