/-
  No cell of these rows narrows 'for every input' (looked for: loops, veiled, ifaces, maps, wideKeys, modest, calm, conditions, laid).
  DERIVED. THE GIVEN ROWS OF THIS SEAT. 5 by the template 'for every input the law returns true; each argument reads behind the call as it read before'; 0 by the template 'total and deterministic' (their statements: YtohnnlimkmofbaaTotals.lean).
  GIVEN WITH THE SEED: the statements are not yours to turn. If you find one false, say at which input.
  Laid BY PROGRAM, IN A SANDBOX (cutbox-rows.mjs): the forced cells as the released guide's own fill.sh prints them over the translation 6c360a504496a111… (all of the seat's roots in one cut). By AI agents, Wed Nov 11 2026. No macro, syntax, notation, axiom, sorry.
-/
import Derived.Test.YtohnnlimkmofbaaChecked
import GoSem.Claim
import GoSem.ClaimJoined
import GoSem.ClaimMapViews
import Derived.JoinedTies
import Derived.KernelRfl
namespace Go.Proofs.Ytohnnlimkmofbaa
/- THE CELL 'sum', in the pinned program and in every row, IS THE sha256 OF THE DUMP (.gsa) THAT YtohnnlimkmofbaaProg.lean LOADS. Nothing in Lean hashes anything: it is a label: what it is worth is what the hold of that sum in a sandbox is worth. -/
noncomputable def Try.pinned : Pinned := { name := "ytohnnlimkmofbaa", sum := "6c360a504496a111db497dbb67fb859b29fc6b4db45df315be1ef2262909f5f3", checked := Try.checked }
namespace Rows
def none {H : Type} : Left H := { results := [], args := [] }

/-- 'butterylaw07.SlabClasses': WHATEVER THE INPUT: true; the input reads as it did. -/
def slabClassesSpec : ChangeSpec := { name := "slabClasses", fn := fun _ => fun
  | [d1, d2] => { results := [.lit (.bool true)], args := [d1, d2] }
  | _ => none }
def slabClassesRow : OpenClaim := { program := "ytohnnlimkmofbaa", sum := "6c360a504496a111db497dbb67fb859b29fc6b4db45df315be1ef2262909f5f3", func := "buttery/butterylaw07.SlabClasses", spec := "slabClasses", plainKeys := false, apart := false }
def SlabClassesSaid : Prop := slabClassesRow.holds Try.pinned (OpenSpec.ofChange slabClassesSpec)

/-- ITS FALSE NEIGHBOUR: 'it returns false'. Refute it at one input. -/
def slabClassesWrong : ChangeSpec := { name := "slabClasses", fn := fun _ => fun
  | [d1, d2] => { results := [.lit (.bool false)], args := [d1, d2] }
  | _ => none }
def SlabClassesWrongFalsely : Prop := slabClassesRow.holds Try.pinned (OpenSpec.ofChange slabClassesWrong)

/-- 'butterylaw07.SlabAgain': WHATEVER THE INPUT: true; the input reads as it did. -/
def slabAgainSpec : ChangeSpec := { name := "slabAgain", fn := fun _ => fun
  | [d1, d2] => { results := [.lit (.bool true)], args := [d1, d2] }
  | _ => none }
def slabAgainRow : OpenClaim := { program := "ytohnnlimkmofbaa", sum := "6c360a504496a111db497dbb67fb859b29fc6b4db45df315be1ef2262909f5f3", func := "buttery/butterylaw07.SlabAgain", spec := "slabAgain", plainKeys := false, apart := false }
def SlabAgainSaid : Prop := slabAgainRow.holds Try.pinned (OpenSpec.ofChange slabAgainSpec)

/-- ITS FALSE NEIGHBOUR: 'it returns false'. Refute it at one input. -/
def slabAgainWrong : ChangeSpec := { name := "slabAgain", fn := fun _ => fun
  | [d1, d2] => { results := [.lit (.bool false)], args := [d1, d2] }
  | _ => none }
def SlabAgainWrongFalsely : Prop := slabAgainRow.holds Try.pinned (OpenSpec.ofChange slabAgainWrong)

/-- 'butterylaw07.SlabFrees': WHATEVER THE INPUT: true; the input reads as it did. -/
def slabFreesSpec : ChangeSpec := { name := "slabFrees", fn := fun _ => fun
  | [d1, d2, d3] => { results := [.lit (.bool true)], args := [d1, d2, d3] }
  | _ => none }
def slabFreesRow : OpenClaim := { program := "ytohnnlimkmofbaa", sum := "6c360a504496a111db497dbb67fb859b29fc6b4db45df315be1ef2262909f5f3", func := "buttery/butterylaw07.SlabFrees", spec := "slabFrees", plainKeys := false, apart := false }
def SlabFreesSaid : Prop := slabFreesRow.holds Try.pinned (OpenSpec.ofChange slabFreesSpec)

/-- ITS FALSE NEIGHBOUR: 'it returns false'. Refute it at one input. -/
def slabFreesWrong : ChangeSpec := { name := "slabFrees", fn := fun _ => fun
  | [d1, d2, d3] => { results := [.lit (.bool false)], args := [d1, d2, d3] }
  | _ => none }
def SlabFreesWrongFalsely : Prop := slabFreesRow.holds Try.pinned (OpenSpec.ofChange slabFreesWrong)

/-- 'butterylaw07.SlabDoes': WHATEVER THE INPUT: true; the input reads as it did. -/
def slabDoesSpec : ChangeSpec := { name := "slabDoes", fn := fun _ => fun
  | [d1, d2] => { results := [.lit (.bool true)], args := [d1, d2] }
  | _ => none }
def slabDoesRow : OpenClaim := { program := "ytohnnlimkmofbaa", sum := "6c360a504496a111db497dbb67fb859b29fc6b4db45df315be1ef2262909f5f3", func := "buttery/butterylaw07.SlabDoes", spec := "slabDoes", plainKeys := false, apart := false }
def SlabDoesSaid : Prop := slabDoesRow.holds Try.pinned (OpenSpec.ofChange slabDoesSpec)

/-- ITS FALSE NEIGHBOUR: 'it returns false'. Refute it at one input. -/
def slabDoesWrong : ChangeSpec := { name := "slabDoes", fn := fun _ => fun
  | [d1, d2] => { results := [.lit (.bool false)], args := [d1, d2] }
  | _ => none }
def SlabDoesWrongFalsely : Prop := slabDoesRow.holds Try.pinned (OpenSpec.ofChange slabDoesWrong)

/-- 'butterylaw07.SlabBudget': WHATEVER THE INPUT: true; the input reads as it did. -/
def slabBudgetSpec : ChangeSpec := { name := "slabBudget", fn := fun _ => fun
  | [d1, d2] => { results := [.lit (.bool true)], args := [d1, d2] }
  | _ => none }
def slabBudgetRow : OpenClaim := { program := "ytohnnlimkmofbaa", sum := "6c360a504496a111db497dbb67fb859b29fc6b4db45df315be1ef2262909f5f3", func := "buttery/butterylaw07.SlabBudget", spec := "slabBudget", plainKeys := false, apart := false }
def SlabBudgetSaid : Prop := slabBudgetRow.holds Try.pinned (OpenSpec.ofChange slabBudgetSpec)

/-- ITS FALSE NEIGHBOUR: 'it returns false'. Refute it at one input. -/
def slabBudgetWrong : ChangeSpec := { name := "slabBudget", fn := fun _ => fun
  | [d1, d2] => { results := [.lit (.bool false)], args := [d1, d2] }
  | _ => none }
def SlabBudgetWrongFalsely : Prop := slabBudgetRow.holds Try.pinned (OpenSpec.ofChange slabBudgetWrong)

/- THE SECOND FORM. 'bulk': how many values and letters a reading holds, each counted each time it is reached (what is shared counts as often as it is met; a slice's spare places count too). A statement '..UptoSaid' is the law's where the arguments, and the package variables that the reading takes, are together of bulk at most 1048576: NARROWER than '..Said'. Prove '..Said' where nothing that the law and all that it calls make is longer than what came in: it says more and counts as full. Else prove '..UptoSaid'. A law counts once. -/
mutual
def uptoBulk {H : Type} : DataW H → Nat
  | .lit (.string bytes) => bytes.length + 1
  | .lit _ => 1
  | .nil => 1
  | .ptr d => uptoBulk d + 1
  | .slice elems spare => uptoBulkAll elems + uptoBulkAll spare + 1
  | .agg parts => uptoBulkAll parts + 1
  | .iface _ d => uptoBulk d + 1
  | .map entries => uptoBulkEntries entries + 1
  | .held _ => 1
def uptoBulkAll {H : Type} : List (DataW H) → Nat
  | [] => 0
  | d :: r => uptoBulk d + uptoBulkAll r
def uptoBulkEntries {H : Type} : List (Lit × DataW H) → Nat
  | [] => 0
  | x :: r => uptoBulkEntry x + uptoBulkEntries r
def uptoBulkEntry {H : Type} : Lit × DataW H → Nat
  | (.string bytes, d) => bytes.length + uptoBulk d + 1
  | (_, d) => uptoBulk d + 1
 end
def uptoSmall : (H : Type) → List (DataW H) → Bool := fun _ ds => decide (uptoBulkAll ds ≤ 1048576)
def OpenSpec.upto (s : _root_.Go.ChangeSpec) : _root_.Go.OpenSpec := { _root_.Go.OpenSpec.ofChange s with cond := some uptoSmall }

/-- 'butterylaw07.SlabClasses', WHERE WHAT IT READS IS OF BULK AT MOST 1048576: true; the input reads as it did. -/
def slabClassesUptoRow : OpenClaim := { program := "ytohnnlimkmofbaa", sum := "6c360a504496a111db497dbb67fb859b29fc6b4db45df315be1ef2262909f5f3", func := "buttery/butterylaw07.SlabClasses", spec := "slabClasses", plainKeys := false, apart := false, narrowed := true }
def SlabClassesUptoSaid : Prop := slabClassesUptoRow.holds Try.pinned (OpenSpec.upto slabClassesSpec)

/-- 'butterylaw07.SlabAgain', WHERE WHAT IT READS IS OF BULK AT MOST 1048576: true; the input reads as it did. -/
def slabAgainUptoRow : OpenClaim := { program := "ytohnnlimkmofbaa", sum := "6c360a504496a111db497dbb67fb859b29fc6b4db45df315be1ef2262909f5f3", func := "buttery/butterylaw07.SlabAgain", spec := "slabAgain", plainKeys := false, apart := false, narrowed := true }
def SlabAgainUptoSaid : Prop := slabAgainUptoRow.holds Try.pinned (OpenSpec.upto slabAgainSpec)

/-- 'butterylaw07.SlabFrees', WHERE WHAT IT READS IS OF BULK AT MOST 1048576: true; the input reads as it did. -/
def slabFreesUptoRow : OpenClaim := { program := "ytohnnlimkmofbaa", sum := "6c360a504496a111db497dbb67fb859b29fc6b4db45df315be1ef2262909f5f3", func := "buttery/butterylaw07.SlabFrees", spec := "slabFrees", plainKeys := false, apart := false, narrowed := true }
def SlabFreesUptoSaid : Prop := slabFreesUptoRow.holds Try.pinned (OpenSpec.upto slabFreesSpec)

/-- 'butterylaw07.SlabDoes', WHERE WHAT IT READS IS OF BULK AT MOST 1048576: true; the input reads as it did. -/
def slabDoesUptoRow : OpenClaim := { program := "ytohnnlimkmofbaa", sum := "6c360a504496a111db497dbb67fb859b29fc6b4db45df315be1ef2262909f5f3", func := "buttery/butterylaw07.SlabDoes", spec := "slabDoes", plainKeys := false, apart := false, narrowed := true }
def SlabDoesUptoSaid : Prop := slabDoesUptoRow.holds Try.pinned (OpenSpec.upto slabDoesSpec)

/-- 'butterylaw07.SlabBudget', WHERE WHAT IT READS IS OF BULK AT MOST 1048576: true; the input reads as it did. -/
def slabBudgetUptoRow : OpenClaim := { program := "ytohnnlimkmofbaa", sum := "6c360a504496a111db497dbb67fb859b29fc6b4db45df315be1ef2262909f5f3", func := "buttery/butterylaw07.SlabBudget", spec := "slabBudget", plainKeys := false, apart := false, narrowed := true }
def SlabBudgetUptoSaid : Prop := slabBudgetUptoRow.holds Try.pinned (OpenSpec.upto slabBudgetSpec)

end Rows
end Go.Proofs.Ytohnnlimkmofbaa
