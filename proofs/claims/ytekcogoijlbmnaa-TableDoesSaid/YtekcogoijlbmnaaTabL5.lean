/- Layer 9: the law's list of all pairs, in a run. -/
import Derived.Test.YtekcogoijlbmnaaTabL4
namespace Go.Proofs.Ytekcogoijlbmnaa.TabL
open Go Go.RowKit Go.Proofs.Ytekcogoijlbmnaa.Mem Go.Proofs.Ytekcogoijlbmnaa.Ops Go.Proofs.Ytekcogoijlbmnaa.Tab Go.Proofs.Ytekcogoijlbmnaa.TabI

theorem all' {W w : World} {n b : Nat} {F : Nat → Prop} {seed : Int} {s : St V} (h : Run W w n b F seed s) (most : Int) :
    Calls Try.prog 14 #[.pointer (some ⟨b, 0, none⟩), .int .i64 most] w fun e w' => ∃ a c, e = .returned (.slice a (allN s.L most).length c) ∧ (allN s.L most).length ≤ c ∧ Hid (ReadsP w' (.slice a (allN s.L most).length c) (allN s.L most) ∧ Run W w' n b F seed s ∧ Below w.heap.size w w') :=
  (all_law h.at_ h.sm most).mono fun _ _ ⟨v, he, ho, hb⟩ => by
    have hr := ReadsP.of_row ho
    obtain ⟨a, c, e, hc, hx⟩ := hr
    exact ⟨a, c, by rw [he, e], hc, Lib.hid ⟨⟨a, c, rfl, hc, hx⟩, h.step hb, hb⟩⟩
theorem allN_all {L : Pairs V} {most : Int} (h : L.length ≤ most.toNat) : allN L most = L := List.take_of_length_le h
theorem ReadsP.drewN {w : World} {v : Value} {xs : Pairs V} (h : ReadsP w v xs) (d : Nat) : ReadsP (w.drewN d) v xs := h.below (Mem.dn (Below.refl _ w) d)
end Go.Proofs.Ytekcogoijlbmnaa.TabL
