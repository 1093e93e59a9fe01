/- PartX1: Wins12, Bytes12, Tells12, one behind the other. -/
import Derived.Test.YtodoglljjhdbeaaGreatDoorPart35
import Derived.Test.YtodoglljjhdbeaaGreatDoorPart20
import Derived.Deep.AppendLies
/- Layer 12: fewer of a law's own boxes and values. -/
namespace Go.Proofs.YtodoglljjhdbeaaGreatDoor.Exec
open Go Go.RowKit Go.Proofs.YtodoglljjhdbeaaGreatDoor.Mem Go.Proofs.YtodoglljjhdbeaaGreatDoor.Shard

theorem LS.sub {seed B : Int} {W w : World} {M b : Nat} {s : St} {bs bs' : List (Nat × Obj)} {vs vs' : List (Value × List UInt8)} (h : LS seed B W w M b s bs vs) (hb : ∀ p ∈ bs', p ∈ bs) (hv : ∀ p ∈ vs', p ∈ vs) : LS seed B W w M b s bs' vs' := by
  obtain ⟨⟨col, h1, h2, h3⟩, h4⟩ := h
  exact ⟨⟨col, h1, ⟨fun p hp => h2 p (hb p hp), fun p hp => h3 p (hv p hp)⟩⟩, h4⟩
end Go.Proofs.YtodoglljjhdbeaaGreatDoor.Exec

/- Layer 12: bytes and one command, as arguments that are not too great. -/
namespace Go.Proofs.YtodoglljjhdbeaaGreatDoor.Exec
set_option maxRecDepth 100000
open Go Go.ChangeShapes Go.WideShapes Go.Deep Go.RowKit Go.Proofs.YtodoglljjhdbeaaGreatDoor.Ops Go.Proofs.YtodoglljjhdbeaaGreatDoor.App Go.Proofs.YtodoglljjhdbeaaGreatDoor.Shard

theorem bs_append (xs ys : List UInt8) : bs (xs ++ ys) = bs xs ++ bs ys := by
  apply ByteArray.ext
  simp [bs, ByteArray.data_append]
theorem bs_size (xs : List UInt8) : (bs xs).size = xs.length := by
  show xs.toArray.size = _
  rw [List.size_toArray]
section
variable {H : Type} {enc : TypeId × Value → H} {w : World} {base : Nat} {spare : Nat → Bool} {held : Bool}
theorem open_bytesB {r : Reach} {b0 : Nat} {v : Value} {d : DataW H} {ps : List MemPlace} (hval : Value.okWide Tryz.prog w r b0 23 v) (hd : DataW.Trod enc Tryz.prog w base spare held 23 v d ps) (hN : Rows.uptoBulk d ≤ 1048576) :
    ∃ (xs : List UInt8) (a : Option Addr) (c : Nat), v = .slice a xs.length c ∧ xs.length ≤ 1048576 ∧ SrcB w (.slice a xs.length c) xs := by
  obtain ⟨a, n, c, rfl⟩ := okWide_slice Tryz.underlying23 hval
  obtain ⟨fuel, hf⟩ := hd
  obtain ⟨xs, hs, hl⟩ := open_bytes (cv := .slice a n c) hf
  have hb := bytes_bulk (cv := .slice a n c) hf hs
  obtain ⟨a', c', e⟩ := hs.shape
  rw [e] at hs
  exact ⟨xs, a', c', e, Nat.le_trans hb hN, hs⟩
end
end Go.Proofs.YtodoglljjhdbeaaGreatDoor.Exec

/- Layer 12: a list of commands, and one more behind it, laid anew (append of append). -/
namespace Go.Proofs.YtodoglljjhdbeaaGreatDoor.Exec
set_option maxRecDepth 100000
open Go Go.ChangeShapes Go.WideShapes Go.Deep Go.RowKit Go.Proofs.YtodoglljjhdbeaaGreatDoor.Mem Go.Proofs.YtodoglljjhdbeaaGreatDoor.App Go.Proofs.YtodoglljjhdbeaaGreatDoor.Shard Go.Proofs.YtodoglljjhdbeaaGreatDoor.Ops

theorem enc_len (o : Op) : (encO o).length = 14 := rfl
theorem flat_len (l : List Op) : (l.flatMap encO).length = l.length * 14 := by
  induction l with
  | nil => rfl
  | cons a l ih => rw [List.flatMap_cons, List.length_append, ih, enc_len, List.length_cons]; omega
theorem flat_at : ∀ (l : List Op) (i j : Nat), j < 14 → (l.flatMap encO)[i * 14 + j]? = (l[i]?).bind fun a => (encO a)[j]?
  | [], i, j, _ => by simp
  | a :: l, 0, j, hj => by
    rw [List.flatMap_cons, List.getElem?_append_left (by rw [enc_len]; omega)]
    simp
  | a :: l, i + 1, j, hj => by
    rw [List.flatMap_cons, List.getElem?_append_right (by rw [enc_len]; omega), enc_len, show (i + 1) * 14 + j - 14 = i * 14 + j by omega, flat_at l i j hj]
    simp
theorem lies_of_src {w : World} {y : Value} {l : List Op} (h : Src w 14 y l.length (l.flatMap encO)) : ∃ x c, y = .slice x l.length c ∧ Lies w 14 encO x l := by
  rcases h with ⟨rfl, h1, h2⟩ | ⟨g, off, c, rfl, h1, h2, h3⟩
  · have hl : l = [] := List.eq_nil_of_length_eq_zero h2
    subst hl
    exact ⟨none, 0, rfl, fun i a ha => by simp at ha⟩
  · refine ⟨_, c, rfl, fun i a ha => ⟨g, off, rfl, h2, fun j u hu => ?_⟩⟩
    have hj : j < 14 := by have := (List.getElem?_eq_some_iff.1 hu).1; rwa [enc_len] at this
    have := h3 (i * 14 + j) u (by rw [flat_at l i j hj, ha]; exact hu)
    rwa [← Nat.add_assoc] at this
/-- What is appended. -/
def Many (w : World) (y : Value) (m : Nat) (ys : List Value) : Prop := (y = .slice none 0 0 ∧ ys = [] ∧ m = 0) ∨ ∃ a c, y = .slice (some a) m c ∧ ys.length = m * 14 ∧ ∀ j u, ys[j]? = some u → w.cell? (a.add j) = some u
theorem many_of_lies {w : World} {x : Option Addr} {c : Nat} {l : List Op} (h : Lies w 14 encO x l) (hx : x = none → c = 0 ∧ l = []) : Many w (.slice x l.length c) l.length (l.flatMap encO) := by
  rcases x with _ | a
  · obtain ⟨rfl, rfl⟩ := hx rfl
    exact .inl ⟨rfl, rfl, rfl⟩
  · refine .inr ⟨a, c, rfl, flat_len l, fun k u hu => ?_⟩
    have hk : k < l.length * 14 := by have := (List.getElem?_eq_some_iff.1 hu).1; rwa [flat_len] at this
    have e : k = (k / 14) * 14 + k % 14 := by omega
    obtain ⟨q, hq⟩ : ∃ q, l[k / 14]? = some q := ⟨_, List.getElem?_eq_getElem (by omega)⟩
    rw [e, flat_at l (k / 14) (k % 14) (Nat.mod_lt _ (by decide)), hq] at hu
    obtain ⟨B, off, ha, hB, hc⟩ := h (k / 14) q hq
    injection ha with ha
    subst ha
    rw [addr_add, show off + k = off + k / 14 * 14 + k % 14 by omega]
    exact hc (k % 14) u hu
theorem step_append_many {w : World} {ops : Array Oper} {o : Oper} {a : Act} {K : Act → World → Prop} {Q : Exit → Act → World → Prop} {E : Prop} (hgd : o.guard = none) (s x : Operand)
    (ho : o.op = .call { callee := .builtin .append, args := #[s, x], argTypes := #[22, 22] })
    (base : Nat) (v : Value) (n : Nat) (xs : List Value) (hs : a.eval s = v) (hown : w.ownsRow base 31 14 v n xs) (y : Value) (m : Nat) (ys : List Value) (hx : a.eval x = y) (hy : Many w y m ys) (h1 : ∀ u ∈ ys, u.oneCell' = true) (hnm : n + m ≤ 1000000) (hbase : base ≤ w.heap.size)
    (h : ∀ v' w', w'.ownsRow base 31 14 v' (n + m) (xs ++ ys) → w.grownBy w' v.ownBlock → K (a.put o.dst v') w') :
    if Region.wanted o (yielded ops a.tmps) = true then Oper.wp Tryz.prog o a w K Q else E := by
  have hw : Region.wanted o (yielded ops a.tmps) = true := by simp [Region.wanted, hgd]
  rw [if_pos hw]
  obtain ⟨i, hi, hz0, hz1, hz2⟩ : ∃ i, Tryz.prog.info? 31 = some i ∧ i.size = 14 ∧ i.bytes ≤ 200 ∧ ∃ z, i.zero = some z ∧ z.cells.size = 14 := by
    have e : (Tryz.prog.info? 31).map (fun i => (i.size, decide (i.bytes ≤ 200), i.zero.map (fun z => z.cells.size))) = some (14, true, some 14) := by kernel_rfl
    obtain ⟨i, hi, e2⟩ := Option.map_eq_some_iff.1 e
    injection e2 with e3 e4
    injection e4 with e4 e5
    obtain ⟨z, hz, e6⟩ := Option.map_eq_some_iff.1 e5
    exact ⟨i, hi, e3, of_decide_eq_true e4, z, hz, e6⟩
  obtain ⟨z, hz, hzs⟩ := hz2
  unfold Oper.wp
  rcases hy with ⟨rfl, rfl, rfl⟩ | ⟨ad, c, rfl, h2, h3⟩
  · have hrun := run_append_owned_none (P := Tryz.prog) (w := w) base 22 o.type 31 i 14 Tryz.underlying22 hi v n xs hown
    simp [execOp, ho, resolve, invoke, builtin, hs, hx, hrun, Result.andThen]
    exact h v w (by rw [List.append_nil]; exact hown) (grown_refl _ _)
  · obtain ⟨v', w', hrun, h5, h6, _, _⟩ := run_append_own_at (P := Tryz.prog) w base 22 o.type 31 i z 14 i.bytes Tryz.underlying22 hi hz hz0 rfl hzs (by decide) v n xs hown ad m c ys h2 h3 h1 (by unfold maxLen; omega) (Nat.le_trans (Nat.mul_le_mul hnm hz1) (by decide)) hbase
    simp [execOp, ho, resolve, invoke, builtin, hs, hx, hrun, Result.andThen]
    exact h v' w' h5 h6
section
variable {H : Type} {enc : TypeId × Value → H} {w : World} {base : Nat} {spare : Nat → Bool} {held : Bool}
theorem open_opB {r : Reach} {b0 : Nat} {v : Value} {d : DataW H} {ps : List MemPlace} (hval : Value.okWide Tryz.prog w r b0 31 v) (hd : DataW.Trod enc Tryz.prog w base spare held 31 v d ps) (hN : Rows.uptoBulk d ≤ 1048576) :
    ∃ o : Op, v = .agg (encO o).toArray ∧ OpOk w o ∧ o.cmd.key.size ≤ 1048576 ∧ o.cmd.val.length ≤ 1048576 := by
  obtain ⟨cs, rfl, -⟩ := okWide_struct Tryz.underlying31 hval
  obtain ⟨fuel, hf⟩ := hd
  obtain ⟨o, he, hok⟩ := op_el fuel _ _ hf
  have h2 : cs.toList = encO o := he
  have hb := op_bulk fuel o _ (by rw [← h2]; exact hf) hok.src
  have hN2 : Rows.uptoBulk d ≤ 1048576 := hN
  refine ⟨o, ?_, hok, Nat.le_trans hb.1 hN2, Nat.le_trans hb.2 hN2⟩
  congr 1
  exact Array.toList_inj.1 h2
theorem none_of {x : Option Addr} {n c : Nat} {d : DataW H} {ps : List MemPlace} {l : List Op} (hd : DataW.Trod enc Tryz.prog w base spare held 22 (.slice x n c) d ps) (hn : n = l.length) : x = none → c = 0 ∧ l = [] := by
  rintro rfl
  obtain ⟨fuel, hf⟩ := hd
  rcases open_slice Tryz.underlying22 hf with ⟨h0, _⟩ | ⟨a, len, cap, m, n', D, Pl, hcs, _⟩
  · simp [Value.cells] at h0
    obtain ⟨h1, h2⟩ := h0
    exact ⟨h2, List.eq_nil_of_length_eq_zero (by omega)⟩
  · simp [Value.cells] at hcs
end
theorem OpOk.below {w w' : World} {o : Op} (h : OpOk w o) (hb : Below w.heap.size w w') : OpOk w' o := ⟨h.cmd, h.env, h.src.below hb, fun g hx e => Nat.lt_of_lt_of_le (h.low g hx e) hb.size⟩
theorem one_enc {w : World} {o : Op} (h : OpOk w o) : ∀ u ∈ encO o, u.oneCell' = true := fun u hu => by
  obtain ⟨a, k, hv⟩ := h.src.shape
  unfold encO at hu
  rw [hv] at hu
  simp only [List.mem_cons, List.not_mem_nil, or_false] at hu
  rcases hu with rfl | rfl | rfl | rfl | rfl | rfl | rfl | rfl | rfl | rfl | rfl | rfl | rfl | rfl <;> simp [Value.oneCell']
theorem one_flat {w : World} {l : List Op} (h : ∀ o ∈ l, OpOk w o) : ∀ u ∈ l.flatMap encO, u.oneCell' = true := fun u hu => by
  obtain ⟨o, ho, hu⟩ := List.mem_flatMap.1 hu
  exact one_enc (h o ho) u hu
end Go.Proofs.YtodoglljjhdbeaaGreatDoor.Exec

