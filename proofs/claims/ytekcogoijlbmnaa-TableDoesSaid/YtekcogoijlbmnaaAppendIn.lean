/- append onto a row of the call's own, inside a range body; where the new row lies. -/
import Derived.Test.YtekcogoijlbmnaaAppend
import Derived.OwnWalkIn
namespace Go.Proofs.Ytekcogoijlbmnaa.App
open Go Go.RowKit
theorem wpListIn_append_src {F : Fence} {d : Nat} {P : Program} {w : World} {ops : Array Oper} {rest : List Oper} {o : Oper} {a : Act} {Q : Exit → Act → World → Prop} (s x : Operand) (t t' e e' : TypeId) (i : TypeInfo) (z : Value) (size bytes base : Nat) (v y : Value) (n m : Nat) (xs ys : List Value) (hgd : o.guard = none)
    (ho : o.op = .call { callee := .builtin .append, args := #[s, x], argTypes := #[t, t'] }) (ht : P.underlying t = some (.slice e)) (ht' : P.underlying t' = some (.slice e')) (hi : P.info? e = some i) (hz : i.zero = some z) (hsize : i.size = size) (hby : i.bytes = bytes) (hzs : z.cells.size = size) (hsz : 0 < size)
    (hs : a.eval s = v) (hx : a.eval x = y) (hown : w.ownsRow base e size v n xs) (hr : Src w size y m ys) (h1 : ∀ u ∈ ys, u.oneCell' = true) (h63 : n + m ≤ maxLen) (hbytes : (n + m) * bytes ≤ 140737488355328) (hbase : base ≤ w.heap.size)
    (hK : ∀ v' w', w'.ownsRow base e size v' (n + m) (xs ++ ys) → w.grownBy w' v.ownBlock → (v'.ownBlock = v.ownBlock ∨ v'.ownBlock = some w.heap.size) → wpListIn F d P ops Q rest (a.put o.dst v') w') :
    wpListIn F d P ops Q (o :: rest) a w := by
  have hrun0 := append_types (P := P) (ty := o.type) (v := v) (y := y) (w := w) ht ht'
  refine wpListIn_plain hgd fun K hKK => ?_
  obtain ⟨v', w', hrun, h5, h6, h7⟩ : ∃ v' w', (Builtin.append_ #[t, t'] o.type #[v, y]).run P w = .ok v' w' ∧ w'.ownsRow base e size v' (n + m) (xs ++ ys) ∧ w.grownBy w' v.ownBlock ∧ (v'.ownBlock = v.ownBlock ∨ v'.ownBlock = some w.heap.size) := by
    rw [hrun0]
    rcases hr with ⟨e1, rfl, rfl⟩ | ⟨g, off, c, e1, h2, h3, h4⟩
    · rw [e1]
      exact ⟨v, w, run_append_owned_none (P := P) (w := w) base t o.type e i size ht hi v n xs hown, by rw [List.append_nil]; exact hown, grown_refl _ _, .inl rfl⟩
    · obtain ⟨v', w', hrun, h5, h6, _, h7⟩ := run_append_own_at (P := P) w base t o.type e i z size bytes ht hi hz hsize hby hzs hsz v n xs hown ⟨g, off, none⟩ m c ys h2
        (fun j u hu => by rw [addr_add]; exact h4 j u hu) h1 h63 hbytes hbase
      rw [e1]
      exact ⟨v', w', hrun, h5, h6, h7⟩
  unfold Oper.wpIn
  refine ⟨?_, ?_⟩
  · simp [Oper.about, ho, resolve, Target.leads, Sem.run_pure]
  · rw [Oper.semAt_plain F _ _ (by rw [ho]; intro c hc'; cases hc')]
    simp [execOp, ho, resolve, invoke, builtin, hs, hx, hrun, Result.andThen]
    exact hKK _ _ (hK v' w' h5 h6 h7)
end Go.Proofs.Ytekcogoijlbmnaa.App
