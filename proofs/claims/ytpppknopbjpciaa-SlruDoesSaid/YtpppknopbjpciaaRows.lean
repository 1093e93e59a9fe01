/-
  No cell of these rows narrows 'for every input' (looked for: loops, veiled, ifaces, maps, wideKeys, modest, calm, conditions, laid).
  DERIVED. THE GIVEN ROWS OF THIS SEAT. 5 by the template 'for every input the law returns true; each argument reads behind the call as it read before'; 0 by the template 'total and deterministic' (their statements: YtpppknopbjpciaaTotals.lean).
  GIVEN WITH THE SEED: the statements are not yours to turn. If you find one false, say at which input.
  Laid BY PROGRAM, IN A SANDBOX (cutbox-rows.mjs): the forced cells as the released guide's own fill.sh prints them over the translation 90410d02896ceaf8… (all of the seat's roots in one cut). By AI agents, Wed Nov 11 2026. No macro, syntax, notation, axiom, sorry.
-/
import Derived.Test.YtpppknopbjpciaaChecked
import GoSem.Claim
import GoSem.ClaimJoined
import GoSem.ClaimMapViews
import Derived.JoinedTies
import Derived.KernelRfl
namespace Go.Proofs.Ytpppknopbjpciaa
/- THE CELL 'sum', in the pinned program and in every row, IS THE sha256 OF THE DUMP (.gsa) THAT YtpppknopbjpciaaProg.lean LOADS. Nothing in Lean hashes anything: it is a label: what it is worth is what the hold of that sum in a sandbox is worth. -/
noncomputable def Try.pinned : Pinned := { name := "ytpppknopbjpciaa", sum := "90410d02896ceaf830e0604ee46e1d0ed239add99ff3627d06d77e8c7fcf0ff3", checked := Try.checked }
namespace Rows
def none {H : Type} : Left H := { results := [], args := [] }

/-- 'butterylaw08.SlruStops': WHATEVER THE INPUT: true; the input reads as it did. -/
def slruStopsSpec : ChangeSpec := { name := "slruStops", fn := fun _ => fun
  | [d1, d2, d3] => { results := [.lit (.bool true)], args := [d1, d2, d3] }
  | _ => none }
def slruStopsRow : OpenClaim := { program := "ytpppknopbjpciaa", sum := "90410d02896ceaf830e0604ee46e1d0ed239add99ff3627d06d77e8c7fcf0ff3", func := "buttery/butterylaw08.SlruStops", spec := "slruStops", unfollowed := true, recurses := true, apart := false }
def SlruStopsSaid : Prop := slruStopsRow.holds Try.pinned (OpenSpec.ofChange slruStopsSpec)

/-- ITS FALSE NEIGHBOUR: 'it returns false'. Refute it at one input. -/
def slruStopsWrong : ChangeSpec := { name := "slruStops", fn := fun _ => fun
  | [d1, d2, d3] => { results := [.lit (.bool false)], args := [d1, d2, d3] }
  | _ => none }
def SlruStopsWrongFalsely : Prop := slruStopsRow.holds Try.pinned (OpenSpec.ofChange slruStopsWrong)

/-- 'butterylaw08.SlruDoes': WHATEVER THE INPUT: true; the input reads as it did. -/
def slruDoesSpec : ChangeSpec := { name := "slruDoes", fn := fun _ => fun
  | [d1, d2] => { results := [.lit (.bool true)], args := [d1, d2] }
  | _ => none }
def slruDoesRow : OpenClaim := { program := "ytpppknopbjpciaa", sum := "90410d02896ceaf830e0604ee46e1d0ed239add99ff3627d06d77e8c7fcf0ff3", func := "buttery/butterylaw08.SlruDoes", spec := "slruDoes", unfollowed := true, recurses := true, apart := false }
def SlruDoesSaid : Prop := slruDoesRow.holds Try.pinned (OpenSpec.ofChange slruDoesSpec)

/-- ITS FALSE NEIGHBOUR: 'it returns false'. Refute it at one input. -/
def slruDoesWrong : ChangeSpec := { name := "slruDoes", fn := fun _ => fun
  | [d1, d2] => { results := [.lit (.bool false)], args := [d1, d2] }
  | _ => none }
def SlruDoesWrongFalsely : Prop := slruDoesRow.holds Try.pinned (OpenSpec.ofChange slruDoesWrong)

/-- 'butterylaw08.SlruOnce': WHATEVER THE INPUT: true; the input reads as it did. -/
def slruOnceSpec : ChangeSpec := { name := "slruOnce", fn := fun _ => fun
  | [d1, d2] => { results := [.lit (.bool true)], args := [d1, d2] }
  | _ => none }
def slruOnceRow : OpenClaim := { program := "ytpppknopbjpciaa", sum := "90410d02896ceaf830e0604ee46e1d0ed239add99ff3627d06d77e8c7fcf0ff3", func := "buttery/butterylaw08.SlruOnce", spec := "slruOnce", unfollowed := true, recurses := true, apart := false }
def SlruOnceSaid : Prop := slruOnceRow.holds Try.pinned (OpenSpec.ofChange slruOnceSpec)

/-- ITS FALSE NEIGHBOUR: 'it returns false'. Refute it at one input. -/
def slruOnceWrong : ChangeSpec := { name := "slruOnce", fn := fun _ => fun
  | [d1, d2] => { results := [.lit (.bool false)], args := [d1, d2] }
  | _ => none }
def SlruOnceWrongFalsely : Prop := slruOnceRow.holds Try.pinned (OpenSpec.ofChange slruOnceWrong)

/-- 'butterylaw08.SlruLast': WHATEVER THE INPUT: true; the input reads as it did. -/
def slruLastSpec : ChangeSpec := { name := "slruLast", fn := fun _ => fun
  | [d1, d2, d3] => { results := [.lit (.bool true)], args := [d1, d2, d3] }
  | _ => none }
def slruLastRow : OpenClaim := { program := "ytpppknopbjpciaa", sum := "90410d02896ceaf830e0604ee46e1d0ed239add99ff3627d06d77e8c7fcf0ff3", func := "buttery/butterylaw08.SlruLast", spec := "slruLast", unfollowed := true, recurses := true, apart := false }
def SlruLastSaid : Prop := slruLastRow.holds Try.pinned (OpenSpec.ofChange slruLastSpec)

/-- ITS FALSE NEIGHBOUR: 'it returns false'. Refute it at one input. -/
def slruLastWrong : ChangeSpec := { name := "slruLast", fn := fun _ => fun
  | [d1, d2, d3] => { results := [.lit (.bool false)], args := [d1, d2, d3] }
  | _ => none }
def SlruLastWrongFalsely : Prop := slruLastRow.holds Try.pinned (OpenSpec.ofChange slruLastWrong)

/-- 'butterylaw08.SlruLeaves': WHATEVER THE INPUT: true; the input reads as it did. -/
def slruLeavesSpec : ChangeSpec := { name := "slruLeaves", fn := fun _ => fun
  | [d1, d2, d3] => { results := [.lit (.bool true)], args := [d1, d2, d3] }
  | _ => none }
def slruLeavesRow : OpenClaim := { program := "ytpppknopbjpciaa", sum := "90410d02896ceaf830e0604ee46e1d0ed239add99ff3627d06d77e8c7fcf0ff3", func := "buttery/butterylaw08.SlruLeaves", spec := "slruLeaves", unfollowed := true, recurses := true, apart := false }
def SlruLeavesSaid : Prop := slruLeavesRow.holds Try.pinned (OpenSpec.ofChange slruLeavesSpec)

/-- ITS FALSE NEIGHBOUR: 'it returns false'. Refute it at one input. -/
def slruLeavesWrong : ChangeSpec := { name := "slruLeaves", fn := fun _ => fun
  | [d1, d2, d3] => { results := [.lit (.bool false)], args := [d1, d2, d3] }
  | _ => none }
def SlruLeavesWrongFalsely : Prop := slruLeavesRow.holds Try.pinned (OpenSpec.ofChange slruLeavesWrong)

/- THE SECOND FORM. 'bulk': how many values and letters a reading holds, each counted each time it is reached (what is shared counts as often as it is met; a slice's spare places count too). A statement '..UptoSaid' is the law's where the arguments, and the package variables that the reading takes, are together of bulk at most 1048576: NARROWER than '..Said'. Prove '..Said' where nothing that the law and all that it calls make is longer than what came in: it says more and counts as full. Else prove '..UptoSaid'. A law counts once. -/
mutual
def uptoBulk {H : Type} : DataW H → Nat
  | .lit (.string bytes) => bytes.length + 1
  | .lit _ => 1
  | .nil => 1
  | .ptr d => uptoBulk d + 1
  | .slice elems spare => uptoBulkAll elems + uptoBulkAll spare + 1
  | .agg parts => uptoBulkAll parts + 1
  | .iface _ d => uptoBulk d + 1
  | .map entries => uptoBulkEntries entries + 1
  | .held _ => 1
def uptoBulkAll {H : Type} : List (DataW H) → Nat
  | [] => 0
  | d :: r => uptoBulk d + uptoBulkAll r
def uptoBulkEntries {H : Type} : List (Lit × DataW H) → Nat
  | [] => 0
  | x :: r => uptoBulkEntry x + uptoBulkEntries r
def uptoBulkEntry {H : Type} : Lit × DataW H → Nat
  | (.string bytes, d) => bytes.length + uptoBulk d + 1
  | (_, d) => uptoBulk d + 1
 end
def uptoSmall : (H : Type) → List (DataW H) → Bool := fun _ ds => decide (uptoBulkAll ds ≤ 1048576)
def OpenSpec.upto (s : _root_.Go.ChangeSpec) : _root_.Go.OpenSpec := { _root_.Go.OpenSpec.ofChange s with cond := some uptoSmall }

/-- 'butterylaw08.SlruStops', WHERE WHAT IT READS IS OF BULK AT MOST 1048576: true; the input reads as it did. -/
def slruStopsUptoRow : OpenClaim := { program := "ytpppknopbjpciaa", sum := "90410d02896ceaf830e0604ee46e1d0ed239add99ff3627d06d77e8c7fcf0ff3", func := "buttery/butterylaw08.SlruStops", spec := "slruStops", unfollowed := true, recurses := true, apart := false, narrowed := true }
def SlruStopsUptoSaid : Prop := slruStopsUptoRow.holds Try.pinned (OpenSpec.upto slruStopsSpec)

/-- 'butterylaw08.SlruDoes', WHERE WHAT IT READS IS OF BULK AT MOST 1048576: true; the input reads as it did. -/
def slruDoesUptoRow : OpenClaim := { program := "ytpppknopbjpciaa", sum := "90410d02896ceaf830e0604ee46e1d0ed239add99ff3627d06d77e8c7fcf0ff3", func := "buttery/butterylaw08.SlruDoes", spec := "slruDoes", unfollowed := true, recurses := true, apart := false, narrowed := true }
def SlruDoesUptoSaid : Prop := slruDoesUptoRow.holds Try.pinned (OpenSpec.upto slruDoesSpec)

/-- 'butterylaw08.SlruOnce', WHERE WHAT IT READS IS OF BULK AT MOST 1048576: true; the input reads as it did. -/
def slruOnceUptoRow : OpenClaim := { program := "ytpppknopbjpciaa", sum := "90410d02896ceaf830e0604ee46e1d0ed239add99ff3627d06d77e8c7fcf0ff3", func := "buttery/butterylaw08.SlruOnce", spec := "slruOnce", unfollowed := true, recurses := true, apart := false, narrowed := true }
def SlruOnceUptoSaid : Prop := slruOnceUptoRow.holds Try.pinned (OpenSpec.upto slruOnceSpec)

/-- 'butterylaw08.SlruLast', WHERE WHAT IT READS IS OF BULK AT MOST 1048576: true; the input reads as it did. -/
def slruLastUptoRow : OpenClaim := { program := "ytpppknopbjpciaa", sum := "90410d02896ceaf830e0604ee46e1d0ed239add99ff3627d06d77e8c7fcf0ff3", func := "buttery/butterylaw08.SlruLast", spec := "slruLast", unfollowed := true, recurses := true, apart := false, narrowed := true }
def SlruLastUptoSaid : Prop := slruLastUptoRow.holds Try.pinned (OpenSpec.upto slruLastSpec)

/-- 'butterylaw08.SlruLeaves', WHERE WHAT IT READS IS OF BULK AT MOST 1048576: true; the input reads as it did. -/
def slruLeavesUptoRow : OpenClaim := { program := "ytpppknopbjpciaa", sum := "90410d02896ceaf830e0604ee46e1d0ed239add99ff3627d06d77e8c7fcf0ff3", func := "buttery/butterylaw08.SlruLeaves", spec := "slruLeaves", unfollowed := true, recurses := true, apart := false, narrowed := true }
def SlruLeavesUptoSaid : Prop := slruLeavesUptoRow.holds Try.pinned (OpenSpec.upto slruLeavesSpec)

end Rows
end Go.Proofs.Ytpppknopbjpciaa
