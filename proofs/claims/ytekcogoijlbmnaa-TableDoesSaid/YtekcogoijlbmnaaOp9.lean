/- layer 9's list of calls, as an argument. -/
import Derived.Test.YtekcogoijlbmnaaOps
namespace Go.Proofs.Ytekcogoijlbmnaa.TabL
open Go Go.ChangeShapes Go.WideShapes Go.Deep Go.RowKit Go.Proofs.Ytekcogoijlbmnaa.Ops

structure Op where
  kind : Int
  key : ByteArray
  v : Int
def encO (o : Op) : List Value := [.int .i64 o.kind, .string o.key, .int .i64 o.v]
def isI (n : Int) : Prop := -9223372036854775808 ≤ n ∧ n ≤ 9223372036854775807
structure OpOk (o : Op) : Prop where
  kind : isI o.kind
  key : o.key.size ≤ maxLen
  v : isI o.v
theorem isI_of {n : Int} (h : (Lit.int .i64 n).wf = true) : isI n := by simpa [isI, Lit.wf, IntKind.min, IntKind.max, IntKind.signed, IntKind.bits] using h

section
variable {H : Type} {enc : TypeId × Value → H} {w : World} {base : Nat} {spare : Nat → Bool} {held : Bool}
theorem op_el (n : Nat) (cs : List Value) (y : DataW H × List MemPlace) (h : DataW.trod enc Try.prog w base spare held n 30 cs = some y) : ∃ o, cs = encO o ∧ OpOk o := by
  obtain ⟨xs, m, _, _, hlen, hxl, hf⟩ := DataW.trod_struct Try.underlying30 h
  rw [show Try.prog.cellsOf 30 = 3 from by kernel_rfl] at hlen
  have hc1 : Try.prog.cellsOf 3 = 1 := by kernel_rfl
  have hc2 : Try.prog.cellsOf 9 = 1 := by kernel_rfl
  match cs, hlen, xs, hxl with
  | [c0, c1, c2], _, [x0, x1, x2], _ =>
    have g0 := hf 0 _ rfl
    have g1 := hf 1 _ rfl
    have g2 := hf 2 _ rfl
    simp [hc1, hc2] at g0 g1 g2
    obtain ⟨n0, e0, _, w0⟩ := DataW.trod_int Try.underlying3 g0
    obtain ⟨n1, e1, _, w1⟩ := DataW.trod_string Try.underlying9 g1
    obtain ⟨n2, e2, _, w2⟩ := DataW.trod_int Try.underlying3 g2
    injection e0 with e0; injection e1 with e1; injection e2 with e2
    subst e0 e1 e2
    exact ⟨⟨n0, n1, n2⟩, rfl, ⟨isI_of w0, w1, isI_of w2⟩⟩

theorem open_ops {r : Reach} {b0 : Nat} {v : Value} {d : DataW H} {ps : List MemPlace} (hval : Value.okWide Try.prog w r b0 23 v) (hd : DataW.Trod enc Try.prog w base spare held 23 v d ps) :
    ∃ (x : Option Addr) (n c : Nat) (l : List Op), v = .slice x n c ∧ n = l.length ∧ n ≤ maxLen ∧ (∀ a ∈ l, OpOk a) ∧ Lies w 3 encO x l :=
  open_list encO OpOk Try.underlying23 (by kernel_rfl) (by decide) (fun _ => rfl) op_el hval hd
end
end Go.Proofs.Ytekcogoijlbmnaa.TabL
