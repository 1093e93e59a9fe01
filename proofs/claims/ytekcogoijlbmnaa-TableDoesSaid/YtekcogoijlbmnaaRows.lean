/-
  No cell of these rows narrows 'for every input' (looked for: loops, veiled, ifaces, maps, wideKeys, modest, calm, conditions, laid).
  DERIVED. THE GIVEN ROWS OF THIS SEAT. 5 by the template 'for every input the law returns true; each argument reads behind the call as it read before'; 0 by the template 'total and deterministic' (their statements: YtekcogoijlbmnaaTotals.lean).
  GIVEN WITH THE SEED: the statements are not yours to turn. If you find one false, say at which input.
  Laid BY PROGRAM, IN A SANDBOX (cutbox-rows.mjs): the forced cells as the released guide's own fill.sh prints them over the translation 9a4f962f664838ac… (all of the seat's roots in one cut). By AI agents, Wed Nov 11 2026. No macro, syntax, notation, axiom, sorry.
-/
import Derived.Test.YtekcogoijlbmnaaChecked
import GoSem.Claim
import GoSem.ClaimJoined
import GoSem.ClaimMapViews
import Derived.JoinedTies
import Derived.KernelRfl
namespace Go.Proofs.Ytekcogoijlbmnaa
/- THE CELL 'sum', in the pinned program and in every row, IS THE sha256 OF THE DUMP (.gsa) THAT YtekcogoijlbmnaaProg.lean LOADS. Nothing in Lean hashes anything: it is a label: what it is worth is what the hold of that sum in a sandbox is worth. -/
noncomputable def Try.pinned : Pinned := { name := "ytekcogoijlbmnaa", sum := "9a4f962f664838ac8f5b0d8cb32362a91d516e5fed9c134fd922c7f5d428eda1", checked := Try.checked }
namespace Rows
def none {H : Type} : Left H := { results := [], args := [] }

/-- 'butterylaw09.TableLast': WHATEVER THE INPUT: true; the input reads as it did. -/
def tableLastSpec : ChangeSpec := { name := "tableLast", fn := fun _ => fun
  | [d1, d2, d3, d4, d5] => { results := [.lit (.bool true)], args := [d1, d2, d3, d4, d5] }
  | _ => none }
def tableLastRow : OpenClaim := { program := "ytekcogoijlbmnaa", sum := "9a4f962f664838ac8f5b0d8cb32362a91d516e5fed9c134fd922c7f5d428eda1", func := "buttery/butterylaw09.TableLast", spec := "tableLast", unfollowed := true, recurses := true, apart := false }
def TableLastSaid : Prop := tableLastRow.holds Try.pinned (OpenSpec.ofChange tableLastSpec)

/-- ITS FALSE NEIGHBOUR: 'it returns false'. Refute it at one input. -/
def tableLastWrong : ChangeSpec := { name := "tableLast", fn := fun _ => fun
  | [d1, d2, d3, d4, d5] => { results := [.lit (.bool false)], args := [d1, d2, d3, d4, d5] }
  | _ => none }
def TableLastWrongFalsely : Prop := tableLastRow.holds Try.pinned (OpenSpec.ofChange tableLastWrong)

/-- 'butterylaw09.TableSeeds': WHATEVER THE INPUT: true; the input reads as it did. -/
def tableSeedsSpec : ChangeSpec := { name := "tableSeeds", fn := fun _ => fun
  | [d1, d2, d3, d4] => { results := [.lit (.bool true)], args := [d1, d2, d3, d4] }
  | _ => none }
def tableSeedsRow : OpenClaim := { program := "ytekcogoijlbmnaa", sum := "9a4f962f664838ac8f5b0d8cb32362a91d516e5fed9c134fd922c7f5d428eda1", func := "buttery/butterylaw09.TableSeeds", spec := "tableSeeds", inPlace := ["internal/bytealg.abigen_runtime_cmpstring"], unfollowed := true, recurses := true, apart := false }
def TableSeedsSaid : Prop := tableSeedsRow.holds Try.pinned (OpenSpec.ofChange tableSeedsSpec)

/-- ITS FALSE NEIGHBOUR: 'it returns false'. Refute it at one input. -/
def tableSeedsWrong : ChangeSpec := { name := "tableSeeds", fn := fun _ => fun
  | [d1, d2, d3, d4] => { results := [.lit (.bool false)], args := [d1, d2, d3, d4] }
  | _ => none }
def TableSeedsWrongFalsely : Prop := tableSeedsRow.holds Try.pinned (OpenSpec.ofChange tableSeedsWrong)

/-- 'butterylaw09.TableStops': WHATEVER THE INPUT: true; the input reads as it did. -/
def tableStopsSpec : ChangeSpec := { name := "tableStops", fn := fun _ => fun
  | [d1, d2, d3] => { results := [.lit (.bool true)], args := [d1, d2, d3] }
  | _ => none }
def tableStopsRow : OpenClaim := { program := "ytekcogoijlbmnaa", sum := "9a4f962f664838ac8f5b0d8cb32362a91d516e5fed9c134fd922c7f5d428eda1", func := "buttery/butterylaw09.TableStops", spec := "tableStops", inPlace := ["internal/bytealg.abigen_runtime_cmpstring"], unfollowed := true, recurses := true, apart := false }
def TableStopsSaid : Prop := tableStopsRow.holds Try.pinned (OpenSpec.ofChange tableStopsSpec)

/-- ITS FALSE NEIGHBOUR: 'it returns false'. Refute it at one input. -/
def tableStopsWrong : ChangeSpec := { name := "tableStops", fn := fun _ => fun
  | [d1, d2, d3] => { results := [.lit (.bool false)], args := [d1, d2, d3] }
  | _ => none }
def TableStopsWrongFalsely : Prop := tableStopsRow.holds Try.pinned (OpenSpec.ofChange tableStopsWrong)

/-- 'butterylaw09.TableDoes': WHATEVER THE INPUT: true; the input reads as it did. -/
def tableDoesSpec : ChangeSpec := { name := "tableDoes", fn := fun _ => fun
  | [d1, d2] => { results := [.lit (.bool true)], args := [d1, d2] }
  | _ => none }
def tableDoesRow : OpenClaim := { program := "ytekcogoijlbmnaa", sum := "9a4f962f664838ac8f5b0d8cb32362a91d516e5fed9c134fd922c7f5d428eda1", func := "buttery/butterylaw09.TableDoes", spec := "tableDoes", inPlace := ["internal/bytealg.abigen_runtime_cmpstring"], unfollowed := true, recurses := true, apart := false }
def TableDoesSaid : Prop := tableDoesRow.holds Try.pinned (OpenSpec.ofChange tableDoesSpec)

/-- ITS FALSE NEIGHBOUR: 'it returns false'. Refute it at one input. -/
def tableDoesWrong : ChangeSpec := { name := "tableDoes", fn := fun _ => fun
  | [d1, d2] => { results := [.lit (.bool false)], args := [d1, d2] }
  | _ => none }
def TableDoesWrongFalsely : Prop := tableDoesRow.holds Try.pinned (OpenSpec.ofChange tableDoesWrong)

/-- 'butterylaw09.TableGrows': WHATEVER THE INPUT: true; the input reads as it did. -/
def tableGrowsSpec : ChangeSpec := { name := "tableGrows", fn := fun _ => fun
  | [d1, d2, d3, d4] => { results := [.lit (.bool true)], args := [d1, d2, d3, d4] }
  | _ => none }
def tableGrowsRow : OpenClaim := { program := "ytekcogoijlbmnaa", sum := "9a4f962f664838ac8f5b0d8cb32362a91d516e5fed9c134fd922c7f5d428eda1", func := "buttery/butterylaw09.TableGrows", spec := "tableGrows", inPlace := ["internal/bytealg.abigen_runtime_cmpstring"], unfollowed := true, recurses := true, apart := false }
def TableGrowsSaid : Prop := tableGrowsRow.holds Try.pinned (OpenSpec.ofChange tableGrowsSpec)

/-- ITS FALSE NEIGHBOUR: 'it returns false'. Refute it at one input. -/
def tableGrowsWrong : ChangeSpec := { name := "tableGrows", fn := fun _ => fun
  | [d1, d2, d3, d4] => { results := [.lit (.bool false)], args := [d1, d2, d3, d4] }
  | _ => none }
def TableGrowsWrongFalsely : Prop := tableGrowsRow.holds Try.pinned (OpenSpec.ofChange tableGrowsWrong)

/- THE SECOND FORM. 'bulk': how many values and letters a reading holds, each counted each time it is reached (what is shared counts as often as it is met; a slice's spare places count too). A statement '..UptoSaid' is the law's where the arguments, and the package variables that the reading takes, are together of bulk at most 1048576: NARROWER than '..Said'. Prove '..Said' where nothing that the law and all that it calls make is longer than what came in: it says more and counts as full. Else prove '..UptoSaid'. A law counts once. -/
mutual
def uptoBulk {H : Type} : DataW H → Nat
  | .lit (.string bytes) => bytes.length + 1
  | .lit _ => 1
  | .nil => 1
  | .ptr d => uptoBulk d + 1
  | .slice elems spare => uptoBulkAll elems + uptoBulkAll spare + 1
  | .agg parts => uptoBulkAll parts + 1
  | .iface _ d => uptoBulk d + 1
  | .map entries => uptoBulkEntries entries + 1
  | .held _ => 1
def uptoBulkAll {H : Type} : List (DataW H) → Nat
  | [] => 0
  | d :: r => uptoBulk d + uptoBulkAll r
def uptoBulkEntries {H : Type} : List (Lit × DataW H) → Nat
  | [] => 0
  | x :: r => uptoBulkEntry x + uptoBulkEntries r
def uptoBulkEntry {H : Type} : Lit × DataW H → Nat
  | (.string bytes, d) => bytes.length + uptoBulk d + 1
  | (_, d) => uptoBulk d + 1
 end
def uptoSmall : (H : Type) → List (DataW H) → Bool := fun _ ds => decide (uptoBulkAll ds ≤ 1048576)
def OpenSpec.upto (s : _root_.Go.ChangeSpec) : _root_.Go.OpenSpec := { _root_.Go.OpenSpec.ofChange s with cond := some uptoSmall }

/-- 'butterylaw09.TableLast', WHERE WHAT IT READS IS OF BULK AT MOST 1048576: true; the input reads as it did. -/
def tableLastUptoRow : OpenClaim := { program := "ytekcogoijlbmnaa", sum := "9a4f962f664838ac8f5b0d8cb32362a91d516e5fed9c134fd922c7f5d428eda1", func := "buttery/butterylaw09.TableLast", spec := "tableLast", unfollowed := true, recurses := true, apart := false, narrowed := true }
def TableLastUptoSaid : Prop := tableLastUptoRow.holds Try.pinned (OpenSpec.upto tableLastSpec)

/-- 'butterylaw09.TableSeeds', WHERE WHAT IT READS IS OF BULK AT MOST 1048576: true; the input reads as it did. -/
def tableSeedsUptoRow : OpenClaim := { program := "ytekcogoijlbmnaa", sum := "9a4f962f664838ac8f5b0d8cb32362a91d516e5fed9c134fd922c7f5d428eda1", func := "buttery/butterylaw09.TableSeeds", spec := "tableSeeds", inPlace := ["internal/bytealg.abigen_runtime_cmpstring"], unfollowed := true, recurses := true, apart := false, narrowed := true }
def TableSeedsUptoSaid : Prop := tableSeedsUptoRow.holds Try.pinned (OpenSpec.upto tableSeedsSpec)

/-- 'butterylaw09.TableStops', WHERE WHAT IT READS IS OF BULK AT MOST 1048576: true; the input reads as it did. -/
def tableStopsUptoRow : OpenClaim := { program := "ytekcogoijlbmnaa", sum := "9a4f962f664838ac8f5b0d8cb32362a91d516e5fed9c134fd922c7f5d428eda1", func := "buttery/butterylaw09.TableStops", spec := "tableStops", inPlace := ["internal/bytealg.abigen_runtime_cmpstring"], unfollowed := true, recurses := true, apart := false, narrowed := true }
def TableStopsUptoSaid : Prop := tableStopsUptoRow.holds Try.pinned (OpenSpec.upto tableStopsSpec)

/-- 'butterylaw09.TableDoes', WHERE WHAT IT READS IS OF BULK AT MOST 1048576: true; the input reads as it did. -/
def tableDoesUptoRow : OpenClaim := { program := "ytekcogoijlbmnaa", sum := "9a4f962f664838ac8f5b0d8cb32362a91d516e5fed9c134fd922c7f5d428eda1", func := "buttery/butterylaw09.TableDoes", spec := "tableDoes", inPlace := ["internal/bytealg.abigen_runtime_cmpstring"], unfollowed := true, recurses := true, apart := false, narrowed := true }
def TableDoesUptoSaid : Prop := tableDoesUptoRow.holds Try.pinned (OpenSpec.upto tableDoesSpec)

/-- 'butterylaw09.TableGrows', WHERE WHAT IT READS IS OF BULK AT MOST 1048576: true; the input reads as it did. -/
def tableGrowsUptoRow : OpenClaim := { program := "ytekcogoijlbmnaa", sum := "9a4f962f664838ac8f5b0d8cb32362a91d516e5fed9c134fd922c7f5d428eda1", func := "buttery/butterylaw09.TableGrows", spec := "tableGrows", inPlace := ["internal/bytealg.abigen_runtime_cmpstring"], unfollowed := true, recurses := true, apart := false, narrowed := true }
def TableGrowsUptoSaid : Prop := tableGrowsUptoRow.holds Try.pinned (OpenSpec.upto tableGrowsSpec)

end Rows
end Go.Proofs.Ytekcogoijlbmnaa
