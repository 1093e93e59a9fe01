/- Layer 7's list of calls, as an argument. -/
import Derived.Test.YtohnnlimkmofbaaOps
namespace Go.Proofs.Ytohnnlimkmofbaa.Slab
open Go Go.ChangeShapes Go.WideShapes Go.Deep Go.RowKit Go.Proofs.Ytohnnlimkmofbaa.Ops

structure Op where
  kind : Int
  size : Int
  no : Int
  raw : Bool
  c : Int
  n : Int
def encO (o : Op) : List Value := [.int .i64 o.kind, .int .i64 o.size, .int .i64 o.no, .bool o.raw, .int .i64 o.c, .int .i64 o.n]
def isI (n : Int) : Prop := -9223372036854775808 ≤ n ∧ n ≤ 9223372036854775807
structure OpOk (o : Op) : Prop where
  kind : isI o.kind
  size : isI o.size
  no : isI o.no
  c : isI o.c
  n : isI o.n
theorem isI_of {n : Int} (h : (Lit.int .i64 n).wf = true) : isI n := by simpa [isI, Lit.wf, IntKind.min, IntKind.max, IntKind.signed, IntKind.bits] using h

section
variable {H : Type} {enc : TypeId × Value → H} {w : World} {base : Nat} {spare : Nat → Bool} {held : Bool}
theorem op_el (n : Nat) (cs : List Value) (y : DataW H × List MemPlace) (h : DataW.trod enc Try.prog w base spare held n 38 cs = some y) : ∃ o, cs = encO o ∧ OpOk o := by
  obtain ⟨xs, m, _, _, hlen, hxl, hf⟩ := DataW.trod_struct Try.underlying38 h
  rw [show Try.prog.cellsOf 38 = 6 from by kernel_rfl] at hlen
  have hc1 : Try.prog.cellsOf 3 = 1 := by kernel_rfl
  have hc2 : Try.prog.cellsOf 4 = 1 := by kernel_rfl
  have hc3 : Try.prog.cellsOf 34 = 2 := by kernel_rfl
  match cs, hlen, xs, hxl with
  | [c0, c1, c2, c3, c4, c5], _, [x0, x1, x2, x3, x4], _ =>
    have g0 := hf 0 _ rfl
    have g1 := hf 1 _ rfl
    have g2 := hf 2 _ rfl
    have g3 := hf 3 _ rfl
    have g4 := hf 4 _ rfl
    simp [hc1, hc2, hc3] at g0 g1 g2 g3 g4
    obtain ⟨n0, e0, _, w0⟩ := DataW.trod_int Try.underlying3 g0
    obtain ⟨n1, e1, _, w1⟩ := DataW.trod_int Try.underlying3 g1
    obtain ⟨n2, e2, _, w2⟩ := DataW.trod_int Try.underlying3 g2
    obtain ⟨n3, e3, _⟩ := DataW.trod_bool Try.underlying4 g3
    obtain ⟨ys, m', _, _, _, hyl, hg⟩ := DataW.trod_struct Try.underlying34 g4
    match ys, hyl with
    | [y0, y1], _ =>
      have k0 := hg 0 _ rfl
      have k1 := hg 1 _ rfl
      simp [hc1] at k0 k1
      obtain ⟨n4, e4, _, w4⟩ := DataW.trod_int Try.underlying3 k0
      obtain ⟨n5, e5, _, w5⟩ := DataW.trod_int Try.underlying3 k1
      injection e0 with e0; injection e1 with e1; injection e2 with e2; injection e3 with e3; injection e4 with e4; injection e5 with e5
      subst e0 e1 e2 e3 e4 e5
      exact ⟨⟨n0, n1, n2, n3, n4, n5⟩, rfl, ⟨isI_of w0, isI_of w1, isI_of w2, isI_of w4, isI_of w5⟩⟩

theorem open_ops {r : Reach} {b0 : Nat} {v : Value} {d : DataW H} {ps : List MemPlace} (hval : Value.okWide Try.prog w r b0 28 v) (hd : DataW.Trod enc Try.prog w base spare held 28 v d ps) :
    ∃ (x : Option Addr) (n c : Nat) (l : List Op), v = .slice x n c ∧ n = l.length ∧ n ≤ maxLen ∧ (∀ a ∈ l, OpOk a) ∧ Lies w 6 encO x l :=
  open_list encO OpOk Try.underlying28 (by kernel_rfl) (by decide) (fun _ => rfl) op_el hval hd
end
end Go.Proofs.Ytohnnlimkmofbaa.Slab
