/- The slab and the document's own one beside each other, with a list of chunks that a law keeps. -/
import Derived.Test.YtohnnlimkmofbaaSlabRef7
namespace Go.Proofs.Ytohnnlimkmofbaa.RefSlab
open Go Go.RowKit Go.Proofs.Ytohnnlimkmofbaa.Slab Go.Proofs.Ytohnnlimkmofbaa.Mem

structure Both (W w : World) (N b : Nat) (F : Nat → Prop) (s : St) (rb : Nat) (G : Nat → Prop) (r : RSt) (va : Value) (had : List (Int × Int)) : Prop where
  run : Run W w N b F s
  ref : RAt w rb G r
  rlow : ∀ k, G k → W.heap.size ≤ k
  apart : ∀ k, F k → ¬ G k
  link : Link N s r
  row : Row W w (fun k => F k ∨ G k) va had
  hl : had.length ≤ N
/-- A block that is neither the slabs' nor the list's. -/
structure Off (w : World) (F G : Nat → Prop) (va : Value) (ob : Nat) (o : Obj) : Prop where
  is : w.heap[ob]? = some o
  nf : ¬ F ob
  ng : ¬ G ob
  nv : va.ownBlock ≠ some ob
section
variable {W w w1 w2 w' : World} {N M b rb ob : Nat} {F F1 G G2 : Nat → Prop} {s s1 : St} {r r2 : RSt} {va va' : Value} {had : List (Int × Int)} {o : Obj}
theorem Off.lt (h : Off w F G va ob o) : ob < w.heap.size := (Array.getElem?_eq_some_iff.1 h.is).1
theorem Off.step (h : Off w F G va ob o) (hb : Below w.heap.size w w') : Off w' F G va ob o := ⟨(hb.block ob h.lt).trans h.is, h.nf, h.ng, h.nv⟩
theorem Both.step (h : Both W w N b F s rb G r va had) (hb : Below w.heap.size w w') : Both W w' N b F s rb G r va had :=
  ⟨h.run.step hb, h.ref.below hb, h.rlow, h.apart, h.link, h.row.step hb, h.hl⟩
theorem Both.new (h : Both W w N b F s rb G r va had) (o : Obj) : Off (w.alloc o) F G va w.heap.size o :=
  ⟨Mem.new_block w o, fun e => by have := h.run.lt _ e; omega, fun e => by have := h.ref.lt _ e; omega, fun e => by have := (ownsRow_lt h.row.own _ e).2; omega⟩
theorem Both.mono (h : Both W w N b F s rb G r va had) (hm : N ≤ M) : Both W w M b F s rb G r va had := ⟨h.run.mono hm, h.ref, h.rlow, h.apart, h.link.mono hm, h.row, Nat.le_trans h.hl hm⟩
/-- One of the two slabs turns. -/
theorem Both.slab (h : Both W w N b F s rb G r va had) (ha : At w1 b F1 s1) (ho : Only F w w1) (hg : Grows w F F1) (hM : Slab.Good M s1) :
    Run W w1 M b F1 s1 ∧ RAt w1 rb G r ∧ (∀ k, F1 k → ¬ G k) ∧ Row W w1 (fun k => F1 k ∨ G k) va had :=
  ⟨h.run.post ha ho hg hM, h.ref.only ho (fun k hk e => h.apart k e hk), fun k hk e => (hg k hk).elim (fun e1 => h.apart k e1 e) (fun e1 => by have := h.ref.lt k e; omega),
    ⟨row_same h.row.own fun g e => ho.same g (ownsRow_lt h.row.own g e).2 (fun e1 => h.row.off g e (.inl e1)), fun g e hF => hF.elim (fun e1 => (hg g e1).elim (fun e2 => h.row.off g e (.inl e2)) (fun e2 => by have := (ownsRow_lt h.row.own g e).2; omega)) (fun e1 => h.row.off g e (.inr e1))⟩⟩
/-- Both slabs turn, one behind the other. -/
theorem Both.two (h : Both W w N b F s rb G r va had) (ha : At w1 b F1 s1) (ho : Only F w w1) (hg : Grows w F F1) (hM : Slab.Good M s1) (ha2 : RAt w2 rb G2 r2) (ho2 : Only G w1 w2) (hg2 : Grows w1 G G2) (hl : Link M s1 r2) (hNM : N ≤ M) :
    Both W w2 M b F1 s1 rb G2 r2 va had := by
  obtain ⟨q1, q2, q3, q4⟩ := h.slab ha ho hg hM
  have hd : ∀ k, F1 k → ¬ G2 k := fun k hk e => (hg2 k e).elim (fun e1 => q3 k hk e1) (fun e1 => by have := q1.lt k hk; omega)
  have hW : W.heap.size ≤ w1.heap.size := q1.below.size
  refine ⟨⟨q1.at_.only ho2 q3, q1.low, Below.trans q1.below (ho2.below hW h.rlow), q1.good⟩, ha2, fun k hk => (hg2 k hk).elim (h.rlow k) (fun e => Nat.le_trans hW e), hd, hl,
    ⟨row_same q4.own fun g e => ho2.same g (ownsRow_lt q4.own g e).2 (fun e1 => q4.off g e (.inr e1)), fun g e hF => hF.elim (fun e1 => q4.off g e (.inl e1)) (fun e1 => (hg2 g e1).elim (fun e2 => q4.off g e (.inr e2)) (fun e2 => by have := (ownsRow_lt q4.own g e).2; omega))⟩, Nat.le_trans h.hl hNM⟩
theorem Off.two (h : Off w F G va ob o) (ho : Only F w w1) (hg : Grows w F F1) (ho2 : Only G w1 w2) (hg2 : Grows w1 G G2) : Off w2 F1 G2 va ob o := by
  have hl1 : ob < w1.heap.size := Nat.lt_of_lt_of_le h.lt ho.size
  exact ⟨(ho2.same ob hl1 h.ng).trans ((ho.same ob h.lt h.nf).trans h.is), fun e => (hg ob e).elim h.nf (fun e1 => by have := h.lt; omega), fun e => (hg2 ob e).elim h.ng (fun e1 => by omega), h.nv⟩
/-- The list turns. -/
theorem Both.grown {c : Int × Int} {g cap : Nat} (h : Both W w N b F s rb G r va had) (hg : w.grownBy w' va.ownBlock) (hown : w'.ownsRow W.heap.size 34 2 (.slice (some ⟨g, 0, none⟩) (had.length + 1) cap) (had.length + 1) (cellsC had ++ [.int .i64 c.1, .int .i64 c.2]))
    (hat : va.ownBlock = some g ∨ w.heap.size ≤ g) (hN : N + 1 ≤ M) : Both W w' M b F s rb G r (.slice (some ⟨g, 0, none⟩) (had.length + 1) cap) (had ++ [c]) := by
  have hb := fun k (hk : k < w.heap.size) (hn : va.ownBlock ≠ some k) => hg.block k hk (Ne.symm hn)
  refine ⟨(h.run.grown hg fun g e => ⟨fun e1 => h.row.off g e (.inl e1), (ownsRow_lt h.row.own g e).1⟩).mono (by omega), h.ref.same (fun k hk => hb k (h.ref.lt k hk) fun e => h.row.off k e (.inr hk)) hg.size, h.rlow, h.apart, h.link.mono (by omega),
    ⟨by rw [List.length_append, cellsC_app]; exact hown, fun g' e hF => ?_⟩, by simp; have := h.hl; omega⟩
  have : g = g' := by simpa [Value.ownBlock] using e
  subst this
  exact hat.elim (fun e1 => h.row.off g e1 hF) (fun e1 => hF.elim (fun e2 => by have := h.run.lt g e2; omega) (fun e2 => by have := h.ref.lt g e2; omega))
end
end Go.Proofs.Ytohnnlimkmofbaa.RefSlab
