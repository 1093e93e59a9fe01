/- A list of chunks that a law keeps: its row, beside the slab's own memory. -/
import Derived.Test.YtohnnlimkmofbaaSlab7
import Derived.Test.YtohnnlimkmofbaaOp7
import Derived.Deep.AppendLies
import Derived.Maps.AppendAt
namespace Go.Proofs.Ytohnnlimkmofbaa.Slab
open Go Go.RowKit Go.Proofs.Ytohnnlimkmofbaa.Mem

def cellsC (xs : List (Int × Int)) : List Value := xs.flatMap fun c => [.int .i64 c.1, .int .i64 c.2]
theorem cellsC_cons (c : Int × Int) (xs : List (Int × Int)) : cellsC (c :: xs) = .int .i64 c.1 :: .int .i64 c.2 :: cellsC xs := rfl
theorem cellsC_app (xs ys : List (Int × Int)) : cellsC (xs ++ ys) = cellsC xs ++ cellsC ys := by simp [cellsC]
theorem cellsC_len (xs : List (Int × Int)) : (cellsC xs).length = xs.length * 2 := by
  induction xs with
  | nil => rfl
  | cons c xs ih => rw [cellsC_cons, List.length_cons, List.length_cons, List.length_cons, ih]; omega
theorem cellsC_get : ∀ (xs : List (Int × Int)) (k : Nat) (c : Int × Int), xs[k]? = some c → (cellsC xs)[k * 2]? = some (.int .i64 c.1) ∧ (cellsC xs)[k * 2 + 1]? = some (.int .i64 c.2)
  | [], k, c, h => by simp at h
  | d :: xs, 0, c, h => by
    simp at h; subst h; exact ⟨rfl, rfl⟩
  | d :: xs, k + 1, c, h => by
    have := cellsC_get xs k c (by simpa using h)
    rw [cellsC_cons]
    refine ⟨?_, ?_⟩
    · rw [show (k + 1) * 2 = k * 2 + 1 + 1 from by omega, List.getElem?_cons_succ, List.getElem?_cons_succ]; exact this.1
    · rw [show (k + 1) * 2 + 1 = k * 2 + 1 + 1 + 1 from by omega, List.getElem?_cons_succ, List.getElem?_cons_succ]; exact this.2

theorem one_cellsC (xs : List (Int × Int)) : ∀ u ∈ cellsC xs, u.oneCell' = true := fun u hu => by
  simp only [cellsC, List.mem_flatMap] at hu
  obtain ⟨c, _, hc⟩ := hu
  rcases List.mem_cons.1 hc with rfl | hc
  · rfl
  · have : u = .int .i64 c.2 := by simpa using hc
    subst this; rfl
structure Row (W0 w : World) (F : Nat → Prop) (v : Value) (xs : List (Int × Int)) : Prop where
  own : w.ownsRow W0.heap.size 34 2 v xs.length (cellsC xs)
  off : ∀ g, v.ownBlock = some g → ¬ F g
theorem ownsRow_lt {w : World} {base : Nat} {e : TypeId} {size n : Nat} {v : Value} {xs : List Value} (h : w.ownsRow base e size v n xs) : ∀ g, v.ownBlock = some g → base ≤ g ∧ g < w.heap.size := fun g e => by
  rcases h.2 with ⟨e1, _⟩ | ⟨g', cap, cur, e1, h2, e2, _⟩
  · rw [e1] at e; cases e
  · rw [e1] at e
    have : g' = g := by simpa [Value.ownBlock] using e
    subst this
    exact ⟨h2, (Array.getElem?_eq_some_iff.1 e2).1⟩
theorem Row.nil (W0 w : World) (F : Nat → Prop) : Row W0 w F (.slice none 0 0) [] := ⟨World.ownsRow_nil _ _ _ _, fun g e => by cases e⟩
section
variable {W0 w w' : World} {F F' : Nat → Prop} {v : Value} {xs : List (Int × Int)}
theorem Row.only (h : Row W0 w F v xs) (ho : Only F w w') (hg : Grows w F F') : Row W0 w' F' v xs :=
  ⟨row_same h.own fun g e => ho.same g (ownsRow_lt h.own g e).2 (h.off g e), fun g e hF => (hg g hF).elim (h.off g e) (fun e' => by have := (ownsRow_lt h.own g e).2; omega)⟩
theorem Row.step (h : Row W0 w F v xs) (hb : Below w.heap.size w w') : Row W0 w' F v xs :=
  ⟨row_same h.own fun g e => hb.block g (ownsRow_lt h.own g e).2, h.off⟩
theorem Row.shape (h : Row W0 w F v xs) : ∃ a cap, v = .slice a xs.length cap := by
  rcases h.own.2 with ⟨e1, e2⟩ | ⟨g, cap, cur, e1, _⟩
  · exact ⟨none, 0, by rw [e1, e2]⟩
  · exact ⟨_, _, e1⟩
/-- The k-th chunk lies in memory. -/
theorem Row.get (h : Row W0 w F v xs) {k : Nat} {c : Int × Int} (hk : xs[k]? = some c) :
    ∃ g cap, v = .slice (some ⟨g, 0, none⟩) xs.length cap ∧ g < w.heap.size ∧ w.cell? ⟨g, k * 2, none⟩ = some (.int .i64 c.1) ∧ w.cell? ⟨g, k * 2 + 1, none⟩ = some (.int .i64 c.2) := by
  have hkl := (List.getElem?_eq_some_iff.1 hk).1
  obtain ⟨n, hn⟩ : ∃ n, xs.length = n + 1 := ⟨xs.length - 1, by omega⟩
  have ho := h.own
  rw [hn] at ho
  obtain ⟨g, cap, cur, e1, _, e2, _, _, e3⟩ := Mem.row_block ho
  obtain ⟨q1, q2⟩ := cellsC_get xs k c hk
  exact ⟨g, cap, by rw [hn]; exact e1, (Array.getElem?_eq_some_iff.1 e2).1, (Mem.row_cell e2 _).trans (e3 _ _ q1), (Mem.row_cell e2 _).trans (e3 _ _ q2)⟩
theorem Run.grown {N b : Nat} {s : St} {row : Option Nat} (h : Run W0 w N b F s) (hg : w.grownBy w' row) (hr : ∀ g, row = some g → ¬ F g ∧ W0.heap.size ≤ g) : Run W0 w' N b F s :=
  ⟨h.at_.same (fun k hk => hg.block k (h.lt k hk) fun e => (hr k e.symm).1 hk) hg.size, h.low,
    ⟨hg.os.trans h.below.os, hg.tape.trans h.below.tape, hg.output.trans h.below.output, Nat.le_trans h.below.size hg.size, fun k hk => (hg.block k (Nat.lt_of_lt_of_le hk h.below.size) fun e => by have := (hr k e.symm).2; omega).trans (h.below.block k hk)⟩, h.good⟩
/-- An appended list, behind an append onto its row. -/
theorem Row.appended {N b : Nat} {s : St} {c : Int × Int} {g cap : Nat} (h : Row W0 w F v xs) (hR : Run W0 w N b F s) (hown : w'.ownsRow W0.heap.size 34 2 (.slice (some ⟨g, 0, none⟩) (xs.length + 1) cap) (xs.length + 1) (cellsC xs ++ [.int .i64 c.1, .int .i64 c.2]))
    (hat : v.ownBlock = some g ∨ w.heap.size ≤ g) : Row W0 w' F (.slice (some ⟨g, 0, none⟩) (xs.length + 1) cap) (xs ++ [c]) :=
  ⟨by rw [List.length_append, cellsC_app]; exact hown, fun g' e hF => by
    have : g = g' := by simpa [Value.ownBlock] using e
    subst this
    exact hat.elim (fun e1 => h.off g e1 hF) (fun e1 => by have := hR.lt g hF; omega)⟩
end
/-- append of whatever lies at an address (none of it, too) onto a row of the call's own, as a step of a region that draws. -/
theorem step_append_own {P : Program} {w : World} {ops : Array Oper} {o : Oper} {a : Act} {K : Act → World → Prop} {Q : Exit → Act → World → Prop} {E : Prop} (hgd : o.guard = none) (s x : Operand) (t : TypeId)
    (ho : o.op = .call { callee := .builtin .append, args := #[s, x], argTypes := #[t, t] })
    (base : Nat) (e : TypeId) (i : TypeInfo) (z : Value) (size bytes : Nat) (ht : P.underlying t = some (.slice e)) (hi : P.info? e = some i) (hz : i.zero = some z)
    (hsize : i.size = size) (hby : i.bytes = bytes) (hzs : z.cells.size = size) (hsz : 0 < size) {v : Value} {n : Nat} {xs : List Value} (hs : a.eval s = v) (hown : w.ownsRow base e size v n xs)
    {ad : Addr} {m c : Nat} {news : List Value} (hx : a.eval x = .slice (some ad) m c) (hl : news.length = m * size) (hc : ∀ j u, news[j]? = some u → w.cell? (ad.add j) = some u) (h1 : ∀ u ∈ news, u.oneCell' = true)
    (h63 : n + m ≤ maxLen) (hbytes : (n + m) * bytes ≤ 140737488355328) (hbase : base ≤ w.heap.size)
    (hK : ∀ v' w', w'.ownsRow base e size v' (n + m) (xs ++ news) → w.grownBy w' v.ownBlock → (v'.ownBlock = v.ownBlock ∨ v'.ownBlock = some w.heap.size) → K (a.put o.dst v') w') :
    if Region.wanted o (yielded ops a.tmps) = true then Oper.wp P o a w K Q else E := by
  rw [if_pos (by simp [Region.wanted, hgd])]
  obtain ⟨v', w', hrun, h2, h3, _, h5⟩ := run_append_own_at (P := P) w base t o.type e i z size bytes ht hi hz hsize hby hzs hsz v n xs hown ad m c news hl hc h1 h63 hbytes hbase
  unfold Oper.wp
  simp [execOp, ho, resolve, invoke, builtin, hs, hx, hrun, Result.andThen]
  exact hK v' w' h2 h3 h5
theorem infoChunk : (Try.prog.info? 34).map (fun i => (i.zero, i.size, i.bytes)) = some (some (.agg #[.int .i64 0, .int .i64 0]), 2, 16) := by kernel_rfl
theorem addr_add (g off j : Nat) : (⟨g, off, none⟩ : Addr).add j = ⟨g, off + j, none⟩ := by
  unfold Addr.add
  by_cases h : j = 0
  · subst h; rfl
  · rw [if_neg h]
/-- The chunks ys lie at block g from the cell off on. -/
def ReadsC (w : World) (g off : Nat) (ys : List (Int × Int)) : Prop := ∀ j u, (cellsC ys)[j]? = some u → w.cell? ⟨g, off + j, none⟩ = some u
theorem ReadsC.same {w w' : World} {g off : Nat} {ys : List (Int × Int)} (h : ReadsC w g off ys) (hs : w'.heap[g]? = w.heap[g]?) : ReadsC w' g off ys := fun j u hu => (World.cell?_of_block hs).trans (h j u hu)
theorem Row.reads {W0 w : World} {F : Nat → Prop} {xs : List (Int × Int)} {g n c : Nat} (h : Row W0 w F (.slice (some ⟨g, 0, none⟩) n c) xs) : ReadsC w g 0 xs := fun j u hu => by
  have hlen : 0 < xs.length := by
    rcases Nat.eq_zero_or_pos xs.length with h0 | h0
    · rw [List.eq_nil_of_length_eq_zero h0] at hu; simp [cellsC] at hu
    · exact h0
  obtain ⟨n', hn'⟩ : ∃ n', xs.length = n' + 1 := ⟨xs.length - 1, by omega⟩
  have ho := h.own
  rw [hn'] at ho
  obtain ⟨g1, c1, cur, e1, _, e2, _, _, e3⟩ := Mem.row_block ho
  injection e1 with e1
  injection e1 with e1
  injection e1 with e1
  subst e1
  rw [Nat.zero_add]
  exact (Mem.row_cell e2 _).trans (e3 _ _ hu)
theorem cellsC_take (xs : List (Int × Int)) (k : Nat) : cellsC (xs.take k) = (cellsC xs).take (k * 2) := by
  rcases Nat.lt_or_ge k xs.length with h | h
  · conv => rhs; rw [← List.take_append_drop k xs]
    rw [cellsC_app, List.take_left']
    rw [cellsC_len, List.length_take]; omega
  · rw [List.take_of_length_le h, List.take_of_length_le (by rw [cellsC_len]; omega)]
theorem cellsC_drop (xs : List (Int × Int)) (k : Nat) : cellsC (xs.drop k) = (cellsC xs).drop (k * 2) := by
  rcases Nat.lt_or_ge k xs.length with h | h
  · conv => rhs; rw [← List.take_append_drop k xs]
    rw [cellsC_app, List.drop_left']
    rw [cellsC_len, List.length_take]; omega
  · rw [List.drop_eq_nil_of_le h, List.drop_eq_nil_of_le (by rw [cellsC_len]; omega)]; rfl
theorem ReadsC.take {w : World} {g off : Nat} {ys : List (Int × Int)} (h : ReadsC w g off ys) (k : Nat) : ReadsC w g off (ys.take k) := fun j u hu => h j u (by
  rw [cellsC_take, List.getElem?_take] at hu
  split at hu
  · exact hu
  · cases hu)
theorem ReadsC.drop {w : World} {g off : Nat} {ys : List (Int × Int)} (h : ReadsC w g off ys) (k : Nat) : ReadsC w g (off + k * 2) (ys.drop k) := fun j u hu => by
  rw [cellsC_drop, List.getElem?_drop] at hu
  rw [Nat.add_assoc]; exact h _ u hu
theorem Row.cap {W0 w : World} {F : Nat → Prop} {xs : List (Int × Int)} {a : Option Addr} {n c : Nat} (h : Row W0 w F (.slice a n c) xs) : xs.length ≤ c := by
  rcases h.own.2 with ⟨e1, e2⟩ | ⟨g1, c1, cur, e1, _, _, e2, _⟩
  · omega
  · injection e1 with _ _ e1; omega
/-- append of chunks that lie somewhere onto chunks of the call's own, as a step of a region that draws. -/
theorem step_appC {w : World} {ops : Array Oper} {o : Oper} {a : Act} {K : Act → World → Prop} {Q : Exit → Act → World → Prop} {E : Prop} (s x : Operand) (base : Nat) (v : Value) (xs ys : List (Int × Int)) (g off c : Nat) (hgd : o.guard = none)
    (ho : o.op = .call { callee := .builtin .append, args := #[s, x], argTypes := #[31, 31] }) (hs : a.eval s = v) (hx : a.eval x = .slice (some ⟨g, off, none⟩) ys.length c)
    (hown : w.ownsRow base 34 2 v xs.length (cellsC xs)) (hr : ReadsC w g off ys) (hb : xs.length + ys.length ≤ 1000000000) (hbase : base ≤ w.heap.size)
    (hK : ∀ v' w', w'.ownsRow base 34 2 v' (xs ++ ys).length (cellsC (xs ++ ys)) → w.grownBy w' v.ownBlock → (v'.ownBlock = v.ownBlock ∨ v'.ownBlock = some w.heap.size) → K (a.put o.dst v') w') :
    if Region.wanted o (yielded ops a.tmps) = true then Oper.wp Try.prog o a w K Q else E := by
  obtain ⟨i0, hi, hz0, hz1, hz2⟩ := info_parts infoChunk
  exact step_append_own hgd _ _ _ ho base 34 i0 _ 2 16 Try.underlying31 hi hz0 hz1 hz2 rfl (by decide) hs hown hx (cellsC_len ys) (fun j u hu => by rw [addr_add]; exact hr j u hu) (one_cellsC ys)
    (by unfold maxLen; omega) (by omega) hbase fun v' w' h1 h2 h3 => hK v' w' (by rw [List.length_append, cellsC_app]; exact h1) h2 h3
end Go.Proofs.Ytohnnlimkmofbaa.Slab
