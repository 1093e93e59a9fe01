/-
  No cell of these rows narrows 'for every input' (looked for: loops, veiled, ifaces, maps, wideKeys, modest, calm, conditions, laid).
  DERIVED. THE GIVEN ROWS OF THIS SEAT. 7 by the template 'for every input the law returns true; each argument reads behind the call as it read before'; 0 by the template 'total and deterministic' (their statements: YtpeimkmhooiimaaTotals.lean).
  GIVEN WITH THE SEED: the statements are not yours to turn. If you find one false, say at which input.
  Laid BY PROGRAM, IN A SANDBOX (cutbox-rows.mjs): the forced cells as the released guide's own fill.sh prints them over the translation 3225f2fbb3215099… (all of the seat's roots in one cut). By AI agents, Wed Nov 11 2026. No macro, syntax, notation, axiom, sorry.
-/
import Derived.Test.YtpeimkmhooiimaaChecked
import GoSem.Claim
import GoSem.ClaimJoined
import GoSem.ClaimMapViews
import Derived.JoinedTies
import Derived.KernelRfl
namespace Go.Proofs.Ytpeimkmhooiimaa
/- THE CELL 'sum', in the pinned program and in every row, IS THE sha256 OF THE DUMP (.gsa) THAT YtpeimkmhooiimaaProg.lean LOADS. Nothing in Lean hashes anything: it is a label: what it is worth is what the hold of that sum in a sandbox is worth. -/
noncomputable def Try.pinned : Pinned := { name := "ytpeimkmhooiimaa", sum := "3225f2fbb32150993eba084749e7d33ee0113b36ecf38b27438ebdeaab74017d", checked := Try.checked }
namespace Rows
def none {H : Type} : Left H := { results := [], args := [] }

/-- 'butterylaw03.HashOf': WHATEVER THE INPUT: true; the input reads as it did. -/
def hashOfSpec : ChangeSpec := { name := "hashOf", fn := fun _ => fun
  | [d1, d2, d3] => { results := [.lit (.bool true)], args := [d1, d2, d3] }
  | _ => none }
def hashOfRow : OpenClaim := { program := "ytpeimkmhooiimaa", sum := "3225f2fbb32150993eba084749e7d33ee0113b36ecf38b27438ebdeaab74017d", func := "buttery/butterylaw03.HashOf", spec := "hashOf", apart := false }
def HashOfSaid : Prop := hashOfRow.holds Try.pinned (OpenSpec.ofChange hashOfSpec)

/-- ITS FALSE NEIGHBOUR: 'it returns false'. Refute it at one input. -/
def hashOfWrong : ChangeSpec := { name := "hashOf", fn := fun _ => fun
  | [d1, d2, d3] => { results := [.lit (.bool false)], args := [d1, d2, d3] }
  | _ => none }
def HashOfWrongFalsely : Prop := hashOfRow.holds Try.pinned (OpenSpec.ofChange hashOfWrong)

/-- 'butterylaw03.HashUnlike': WHATEVER THE INPUT: true; the input reads as it did. -/
def hashUnlikeSpec : ChangeSpec := { name := "hashUnlike", fn := fun _ => fun
  | [d1, d2] => { results := [.lit (.bool true)], args := [d1, d2] }
  | _ => none }
def hashUnlikeRow : OpenClaim := { program := "ytpeimkmhooiimaa", sum := "3225f2fbb32150993eba084749e7d33ee0113b36ecf38b27438ebdeaab74017d", func := "buttery/butterylaw03.HashUnlike", spec := "hashUnlike", apart := false }
def HashUnlikeSaid : Prop := hashUnlikeRow.holds Try.pinned (OpenSpec.ofChange hashUnlikeSpec)

/-- ITS FALSE NEIGHBOUR: 'it returns false'. Refute it at one input. -/
def hashUnlikeWrong : ChangeSpec := { name := "hashUnlike", fn := fun _ => fun
  | [d1, d2] => { results := [.lit (.bool false)], args := [d1, d2] }
  | _ => none }
def HashUnlikeWrongFalsely : Prop := hashUnlikeRow.holds Try.pinned (OpenSpec.ofChange hashUnlikeWrong)

/-- 'butterylaw03.HashByte': WHATEVER THE INPUT: true; the input reads as it did. -/
def hashByteSpec : ChangeSpec := { name := "hashByte", fn := fun _ => fun
  | [d1, d2, d3, d4] => { results := [.lit (.bool true)], args := [d1, d2, d3, d4] }
  | _ => none }
def hashByteRow : OpenClaim := { program := "ytpeimkmhooiimaa", sum := "3225f2fbb32150993eba084749e7d33ee0113b36ecf38b27438ebdeaab74017d", func := "buttery/butterylaw03.HashByte", spec := "hashByte", apart := false }
def HashByteSaid : Prop := hashByteRow.holds Try.pinned (OpenSpec.ofChange hashByteSpec)

/-- ITS FALSE NEIGHBOUR: 'it returns false'. Refute it at one input. -/
def hashByteWrong : ChangeSpec := { name := "hashByte", fn := fun _ => fun
  | [d1, d2, d3, d4] => { results := [.lit (.bool false)], args := [d1, d2, d3, d4] }
  | _ => none }
def HashByteWrongFalsely : Prop := hashByteRow.holds Try.pinned (OpenSpec.ofChange hashByteWrong)

/-- 'butterylaw03.HashBelow': WHATEVER THE INPUT: true; the input reads as it did. -/
def hashBelowSpec : ChangeSpec := { name := "hashBelow", fn := fun _ => fun
  | [d1, d2] => { results := [.lit (.bool true)], args := [d1, d2] }
  | _ => none }
def hashBelowRow : OpenClaim := { program := "ytpeimkmhooiimaa", sum := "3225f2fbb32150993eba084749e7d33ee0113b36ecf38b27438ebdeaab74017d", func := "buttery/butterylaw03.HashBelow", spec := "hashBelow", apart := false }
def HashBelowSaid : Prop := hashBelowRow.holds Try.pinned (OpenSpec.ofChange hashBelowSpec)

/-- ITS FALSE NEIGHBOUR: 'it returns false'. Refute it at one input. -/
def hashBelowWrong : ChangeSpec := { name := "hashBelow", fn := fun _ => fun
  | [d1, d2] => { results := [.lit (.bool false)], args := [d1, d2] }
  | _ => none }
def HashBelowWrongFalsely : Prop := hashBelowRow.holds Try.pinned (OpenSpec.ofChange hashBelowWrong)

/-- 'butterylaw03.HashSeeds': WHATEVER THE INPUT: true; the input reads as it did. -/
def hashSeedsSpec : ChangeSpec := { name := "hashSeeds", fn := fun _ => fun
  | [d1, d2, d3] => { results := [.lit (.bool true)], args := [d1, d2, d3] }
  | _ => none }
def hashSeedsRow : OpenClaim := { program := "ytpeimkmhooiimaa", sum := "3225f2fbb32150993eba084749e7d33ee0113b36ecf38b27438ebdeaab74017d", func := "buttery/butterylaw03.HashSeeds", spec := "hashSeeds", apart := false }
def HashSeedsSaid : Prop := hashSeedsRow.holds Try.pinned (OpenSpec.ofChange hashSeedsSpec)

/-- ITS FALSE NEIGHBOUR: 'it returns false'. Refute it at one input. -/
def hashSeedsWrong : ChangeSpec := { name := "hashSeeds", fn := fun _ => fun
  | [d1, d2, d3] => { results := [.lit (.bool false)], args := [d1, d2, d3] }
  | _ => none }
def HashSeedsWrongFalsely : Prop := hashSeedsRow.holds Try.pinned (OpenSpec.ofChange hashSeedsWrong)

/-- 'butterylaw03.HashSeveral': WHATEVER THE INPUT: true; the input reads as it did. -/
def hashSeveralSpec : ChangeSpec := { name := "hashSeveral", fn := fun _ => fun
  | [d1, d2, d3, d4] => { results := [.lit (.bool true)], args := [d1, d2, d3, d4] }
  | _ => none }
def hashSeveralRow : OpenClaim := { program := "ytpeimkmhooiimaa", sum := "3225f2fbb32150993eba084749e7d33ee0113b36ecf38b27438ebdeaab74017d", func := "buttery/butterylaw03.HashSeveral", spec := "hashSeveral", unfollowed := true, recurses := true, apart := false }
def HashSeveralSaid : Prop := hashSeveralRow.holds Try.pinned (OpenSpec.ofChange hashSeveralSpec)

/-- ITS FALSE NEIGHBOUR: 'it returns false'. Refute it at one input. -/
def hashSeveralWrong : ChangeSpec := { name := "hashSeveral", fn := fun _ => fun
  | [d1, d2, d3, d4] => { results := [.lit (.bool false)], args := [d1, d2, d3, d4] }
  | _ => none }
def HashSeveralWrongFalsely : Prop := hashSeveralRow.holds Try.pinned (OpenSpec.ofChange hashSeveralWrong)

/-- 'butterylaw03.HashFirst': WHATEVER THE INPUT: true; the input reads as it did. -/
def hashFirstSpec : ChangeSpec := { name := "hashFirst", fn := fun _ => fun
  | [d1, d2, d3, d4] => { results := [.lit (.bool true)], args := [d1, d2, d3, d4] }
  | _ => none }
def hashFirstRow : OpenClaim := { program := "ytpeimkmhooiimaa", sum := "3225f2fbb32150993eba084749e7d33ee0113b36ecf38b27438ebdeaab74017d", func := "buttery/butterylaw03.HashFirst", spec := "hashFirst", unfollowed := true, recurses := true, apart := false }
def HashFirstSaid : Prop := hashFirstRow.holds Try.pinned (OpenSpec.ofChange hashFirstSpec)

/-- ITS FALSE NEIGHBOUR: 'it returns false'. Refute it at one input. -/
def hashFirstWrong : ChangeSpec := { name := "hashFirst", fn := fun _ => fun
  | [d1, d2, d3, d4] => { results := [.lit (.bool false)], args := [d1, d2, d3, d4] }
  | _ => none }
def HashFirstWrongFalsely : Prop := hashFirstRow.holds Try.pinned (OpenSpec.ofChange hashFirstWrong)

/- THE SECOND FORM. 'bulk': how many values and letters a reading holds, each counted each time it is reached (what is shared counts as often as it is met; a slice's spare places count too). A statement '..UptoSaid' is the law's where the arguments, and the package variables that the reading takes, are together of bulk at most 1048576: NARROWER than '..Said'. Prove '..Said' where nothing that the law and all that it calls make is longer than what came in: it says more and counts as full. Else prove '..UptoSaid'. A law counts once. -/
mutual
def uptoBulk {H : Type} : DataW H → Nat
  | .lit (.string bytes) => bytes.length + 1
  | .lit _ => 1
  | .nil => 1
  | .ptr d => uptoBulk d + 1
  | .slice elems spare => uptoBulkAll elems + uptoBulkAll spare + 1
  | .agg parts => uptoBulkAll parts + 1
  | .iface _ d => uptoBulk d + 1
  | .map entries => uptoBulkEntries entries + 1
  | .held _ => 1
def uptoBulkAll {H : Type} : List (DataW H) → Nat
  | [] => 0
  | d :: r => uptoBulk d + uptoBulkAll r
def uptoBulkEntries {H : Type} : List (Lit × DataW H) → Nat
  | [] => 0
  | x :: r => uptoBulkEntry x + uptoBulkEntries r
def uptoBulkEntry {H : Type} : Lit × DataW H → Nat
  | (.string bytes, d) => bytes.length + uptoBulk d + 1
  | (_, d) => uptoBulk d + 1
 end
def uptoSmall : (H : Type) → List (DataW H) → Bool := fun _ ds => decide (uptoBulkAll ds ≤ 1048576)
def OpenSpec.upto (s : _root_.Go.ChangeSpec) : _root_.Go.OpenSpec := { _root_.Go.OpenSpec.ofChange s with cond := some uptoSmall }

/-- 'butterylaw03.HashOf', WHERE WHAT IT READS IS OF BULK AT MOST 1048576: true; the input reads as it did. -/
def hashOfUptoRow : OpenClaim := { program := "ytpeimkmhooiimaa", sum := "3225f2fbb32150993eba084749e7d33ee0113b36ecf38b27438ebdeaab74017d", func := "buttery/butterylaw03.HashOf", spec := "hashOf", apart := false, narrowed := true }
def HashOfUptoSaid : Prop := hashOfUptoRow.holds Try.pinned (OpenSpec.upto hashOfSpec)

/-- 'butterylaw03.HashUnlike', WHERE WHAT IT READS IS OF BULK AT MOST 1048576: true; the input reads as it did. -/
def hashUnlikeUptoRow : OpenClaim := { program := "ytpeimkmhooiimaa", sum := "3225f2fbb32150993eba084749e7d33ee0113b36ecf38b27438ebdeaab74017d", func := "buttery/butterylaw03.HashUnlike", spec := "hashUnlike", apart := false, narrowed := true }
def HashUnlikeUptoSaid : Prop := hashUnlikeUptoRow.holds Try.pinned (OpenSpec.upto hashUnlikeSpec)

/-- 'butterylaw03.HashByte', WHERE WHAT IT READS IS OF BULK AT MOST 1048576: true; the input reads as it did. -/
def hashByteUptoRow : OpenClaim := { program := "ytpeimkmhooiimaa", sum := "3225f2fbb32150993eba084749e7d33ee0113b36ecf38b27438ebdeaab74017d", func := "buttery/butterylaw03.HashByte", spec := "hashByte", apart := false, narrowed := true }
def HashByteUptoSaid : Prop := hashByteUptoRow.holds Try.pinned (OpenSpec.upto hashByteSpec)

/-- 'butterylaw03.HashBelow', WHERE WHAT IT READS IS OF BULK AT MOST 1048576: true; the input reads as it did. -/
def hashBelowUptoRow : OpenClaim := { program := "ytpeimkmhooiimaa", sum := "3225f2fbb32150993eba084749e7d33ee0113b36ecf38b27438ebdeaab74017d", func := "buttery/butterylaw03.HashBelow", spec := "hashBelow", apart := false, narrowed := true }
def HashBelowUptoSaid : Prop := hashBelowUptoRow.holds Try.pinned (OpenSpec.upto hashBelowSpec)

/-- 'butterylaw03.HashSeeds', WHERE WHAT IT READS IS OF BULK AT MOST 1048576: true; the input reads as it did. -/
def hashSeedsUptoRow : OpenClaim := { program := "ytpeimkmhooiimaa", sum := "3225f2fbb32150993eba084749e7d33ee0113b36ecf38b27438ebdeaab74017d", func := "buttery/butterylaw03.HashSeeds", spec := "hashSeeds", apart := false, narrowed := true }
def HashSeedsUptoSaid : Prop := hashSeedsUptoRow.holds Try.pinned (OpenSpec.upto hashSeedsSpec)

/-- 'butterylaw03.HashSeveral', WHERE WHAT IT READS IS OF BULK AT MOST 1048576: true; the input reads as it did. -/
def hashSeveralUptoRow : OpenClaim := { program := "ytpeimkmhooiimaa", sum := "3225f2fbb32150993eba084749e7d33ee0113b36ecf38b27438ebdeaab74017d", func := "buttery/butterylaw03.HashSeveral", spec := "hashSeveral", unfollowed := true, recurses := true, apart := false, narrowed := true }
def HashSeveralUptoSaid : Prop := hashSeveralUptoRow.holds Try.pinned (OpenSpec.upto hashSeveralSpec)

/-- 'butterylaw03.HashFirst', WHERE WHAT IT READS IS OF BULK AT MOST 1048576: true; the input reads as it did. -/
def hashFirstUptoRow : OpenClaim := { program := "ytpeimkmhooiimaa", sum := "3225f2fbb32150993eba084749e7d33ee0113b36ecf38b27438ebdeaab74017d", func := "buttery/butterylaw03.HashFirst", spec := "hashFirst", unfollowed := true, recurses := true, apart := false, narrowed := true }
def HashFirstUptoSaid : Prop := hashFirstUptoRow.holds Try.pinned (OpenSpec.upto hashFirstSpec)

end Rows
end Go.Proofs.Ytpeimkmhooiimaa
