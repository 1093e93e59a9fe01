/-
  No cell of these rows narrows 'for every input' (looked for: loops, veiled, ifaces, maps, wideKeys, modest, calm, conditions, laid).
  DERIVED. THE GIVEN ROWS OF THIS SEAT. 6 by the template 'for every input the law returns true; each argument reads behind the call as it read before'; 0 by the template 'total and deterministic' (their statements: YtkchlibkfafgdaaTotals.lean).
  GIVEN WITH THE SEED: the statements are not yours to turn. If you find one false, say at which input.
  Laid BY PROGRAM, IN A SANDBOX (cutbox-rows.mjs): the forced cells as the released guide's own fill.sh prints them over the translation d2d0af218ae38667… (all of the seat's roots in one cut). By AI agents, Wed Nov 11 2026. No macro, syntax, notation, axiom, sorry.
-/
import Derived.Test.YtkchlibkfafgdaaChecked
import GoSem.Claim
import GoSem.ClaimJoined
import GoSem.ClaimMapViews
import Derived.JoinedTies
import Derived.KernelRfl
namespace Go.Proofs.Ytkchlibkfafgdaa
/- THE CELL 'sum', in the pinned program and in every row, IS THE sha256 OF THE DUMP (.gsa) THAT YtkchlibkfafgdaaProg.lean LOADS. Nothing in Lean hashes anything: it is a label: what it is worth is what the hold of that sum in a sandbox is worth. -/
noncomputable def Try.pinned : Pinned := { name := "ytkchlibkfafgdaa", sum := "d2d0af218ae386672f5581b12b0d8c5539f97f0ec514c83cd7115dcb3b76ee01", checked := Try.checked }
namespace Rows
def none {H : Type} : Left H := { results := [], args := [] }

/-- 'butterylaw11.ShardKeeps': WHATEVER THE INPUT: true; the input reads as it did. -/
def shardKeepsSpec : ChangeSpec := { name := "shardKeeps", fn := fun _ => fun
  | [d1, d2, d3, d4] => { results := [.lit (.bool true)], args := [d1, d2, d3, d4] }
  | _ => none }
def shardKeepsRow : OpenClaim := { program := "ytkchlibkfafgdaa", sum := "d2d0af218ae386672f5581b12b0d8c5539f97f0ec514c83cd7115dcb3b76ee01", func := "buttery/butterylaw11.ShardKeeps", spec := "shardKeeps", unfollowed := true, recurses := true, plainKeys := false, apart := false }
def ShardKeepsSaid : Prop := shardKeepsRow.holds Try.pinned (OpenSpec.ofChange shardKeepsSpec)

/-- ITS FALSE NEIGHBOUR: 'it returns false'. Refute it at one input. -/
def shardKeepsWrong : ChangeSpec := { name := "shardKeeps", fn := fun _ => fun
  | [d1, d2, d3, d4] => { results := [.lit (.bool false)], args := [d1, d2, d3, d4] }
  | _ => none }
def ShardKeepsWrongFalsely : Prop := shardKeepsRow.holds Try.pinned (OpenSpec.ofChange shardKeepsWrong)

/-- 'butterylaw11.ShardBudget': WHATEVER THE INPUT: true; the input reads as it did. -/
def shardBudgetSpec : ChangeSpec := { name := "shardBudget", fn := fun _ => fun
  | [d1, d2, d3, d4] => { results := [.lit (.bool true)], args := [d1, d2, d3, d4] }
  | _ => none }
def shardBudgetRow : OpenClaim := { program := "ytkchlibkfafgdaa", sum := "d2d0af218ae386672f5581b12b0d8c5539f97f0ec514c83cd7115dcb3b76ee01", func := "buttery/butterylaw11.ShardBudget", spec := "shardBudget", inPlace := ["internal/bytealg.abigen_runtime_cmpstring"], unfollowed := true, recurses := true, plainKeys := false, apart := false }
def ShardBudgetSaid : Prop := shardBudgetRow.holds Try.pinned (OpenSpec.ofChange shardBudgetSpec)

/-- ITS FALSE NEIGHBOUR: 'it returns false'. Refute it at one input. -/
def shardBudgetWrong : ChangeSpec := { name := "shardBudget", fn := fun _ => fun
  | [d1, d2, d3, d4] => { results := [.lit (.bool false)], args := [d1, d2, d3, d4] }
  | _ => none }
def ShardBudgetWrongFalsely : Prop := shardBudgetRow.holds Try.pinned (OpenSpec.ofChange shardBudgetWrong)

/-- 'butterylaw11.ShardRemoves': WHATEVER THE INPUT: true; the input reads as it did. -/
def shardRemovesSpec : ChangeSpec := { name := "shardRemoves", fn := fun _ => fun
  | [d1, d2, d3] => { results := [.lit (.bool true)], args := [d1, d2, d3] }
  | _ => none }
def shardRemovesRow : OpenClaim := { program := "ytkchlibkfafgdaa", sum := "d2d0af218ae386672f5581b12b0d8c5539f97f0ec514c83cd7115dcb3b76ee01", func := "buttery/butterylaw11.ShardRemoves", spec := "shardRemoves", inPlace := ["internal/bytealg.abigen_runtime_cmpstring"], unfollowed := true, recurses := true, plainKeys := false, apart := false }
def ShardRemovesSaid : Prop := shardRemovesRow.holds Try.pinned (OpenSpec.ofChange shardRemovesSpec)

/-- ITS FALSE NEIGHBOUR: 'it returns false'. Refute it at one input. -/
def shardRemovesWrong : ChangeSpec := { name := "shardRemoves", fn := fun _ => fun
  | [d1, d2, d3] => { results := [.lit (.bool false)], args := [d1, d2, d3] }
  | _ => none }
def ShardRemovesWrongFalsely : Prop := shardRemovesRow.holds Try.pinned (OpenSpec.ofChange shardRemovesWrong)

/-- 'butterylaw11.ShardOwn': WHATEVER THE INPUT: true; the input reads as it did. -/
def shardOwnSpec : ChangeSpec := { name := "shardOwn", fn := fun _ => fun
  | [d1, d2, d3] => { results := [.lit (.bool true)], args := [d1, d2, d3] }
  | _ => none }
def shardOwnRow : OpenClaim := { program := "ytkchlibkfafgdaa", sum := "d2d0af218ae386672f5581b12b0d8c5539f97f0ec514c83cd7115dcb3b76ee01", func := "buttery/butterylaw11.ShardOwn", spec := "shardOwn", inPlace := ["internal/bytealg.abigen_runtime_cmpstring"], unfollowed := true, recurses := true, plainKeys := false, apart := false }
def ShardOwnSaid : Prop := shardOwnRow.holds Try.pinned (OpenSpec.ofChange shardOwnSpec)

/-- ITS FALSE NEIGHBOUR: 'it returns false'. Refute it at one input. -/
def shardOwnWrong : ChangeSpec := { name := "shardOwn", fn := fun _ => fun
  | [d1, d2, d3] => { results := [.lit (.bool false)], args := [d1, d2, d3] }
  | _ => none }
def ShardOwnWrongFalsely : Prop := shardOwnRow.holds Try.pinned (OpenSpec.ofChange shardOwnWrong)

/-- 'butterylaw11.ShardLooks': WHATEVER THE INPUT: true; the input reads as it did. -/
def shardLooksSpec : ChangeSpec := { name := "shardLooks", fn := fun _ => fun
  | [d1, d2, d3, d4] => { results := [.lit (.bool true)], args := [d1, d2, d3, d4] }
  | _ => none }
def shardLooksRow : OpenClaim := { program := "ytkchlibkfafgdaa", sum := "d2d0af218ae386672f5581b12b0d8c5539f97f0ec514c83cd7115dcb3b76ee01", func := "buttery/butterylaw11.ShardLooks", spec := "shardLooks", inPlace := ["internal/bytealg.abigen_runtime_cmpstring"], unfollowed := true, recurses := true, plainKeys := false, apart := false }
def ShardLooksSaid : Prop := shardLooksRow.holds Try.pinned (OpenSpec.ofChange shardLooksSpec)

/-- ITS FALSE NEIGHBOUR: 'it returns false'. Refute it at one input. -/
def shardLooksWrong : ChangeSpec := { name := "shardLooks", fn := fun _ => fun
  | [d1, d2, d3, d4] => { results := [.lit (.bool false)], args := [d1, d2, d3, d4] }
  | _ => none }
def ShardLooksWrongFalsely : Prop := shardLooksRow.holds Try.pinned (OpenSpec.ofChange shardLooksWrong)

/-- 'butterylaw11.ShardUpdates': WHATEVER THE INPUT: true; the input reads as it did. -/
def shardUpdatesSpec : ChangeSpec := { name := "shardUpdates", fn := fun _ => fun
  | [d1, d2, d3] => { results := [.lit (.bool true)], args := [d1, d2, d3] }
  | _ => none }
def shardUpdatesRow : OpenClaim := { program := "ytkchlibkfafgdaa", sum := "d2d0af218ae386672f5581b12b0d8c5539f97f0ec514c83cd7115dcb3b76ee01", func := "buttery/butterylaw11.ShardUpdates", spec := "shardUpdates", inPlace := ["internal/bytealg.abigen_runtime_cmpstring"], unfollowed := true, recurses := true, plainKeys := false, apart := false }
def ShardUpdatesSaid : Prop := shardUpdatesRow.holds Try.pinned (OpenSpec.ofChange shardUpdatesSpec)

/-- ITS FALSE NEIGHBOUR: 'it returns false'. Refute it at one input. -/
def shardUpdatesWrong : ChangeSpec := { name := "shardUpdates", fn := fun _ => fun
  | [d1, d2, d3] => { results := [.lit (.bool false)], args := [d1, d2, d3] }
  | _ => none }
def ShardUpdatesWrongFalsely : Prop := shardUpdatesRow.holds Try.pinned (OpenSpec.ofChange shardUpdatesWrong)

/- THE SECOND FORM. 'bulk': how many values and letters a reading holds, each counted each time it is reached (what is shared counts as often as it is met; a slice's spare places count too). A statement '..UptoSaid' is the law's where the arguments, and the package variables that the reading takes, are together of bulk at most 1048576: NARROWER than '..Said'. Prove '..Said' where nothing that the law and all that it calls make is longer than what came in: it says more and counts as full. Else prove '..UptoSaid'. A law counts once. -/
mutual
def uptoBulk {H : Type} : DataW H → Nat
  | .lit (.string bytes) => bytes.length + 1
  | .lit _ => 1
  | .nil => 1
  | .ptr d => uptoBulk d + 1
  | .slice elems spare => uptoBulkAll elems + uptoBulkAll spare + 1
  | .agg parts => uptoBulkAll parts + 1
  | .iface _ d => uptoBulk d + 1
  | .map entries => uptoBulkEntries entries + 1
  | .held _ => 1
def uptoBulkAll {H : Type} : List (DataW H) → Nat
  | [] => 0
  | d :: r => uptoBulk d + uptoBulkAll r
def uptoBulkEntries {H : Type} : List (Lit × DataW H) → Nat
  | [] => 0
  | x :: r => uptoBulkEntry x + uptoBulkEntries r
def uptoBulkEntry {H : Type} : Lit × DataW H → Nat
  | (.string bytes, d) => bytes.length + uptoBulk d + 1
  | (_, d) => uptoBulk d + 1
 end
def uptoSmall : (H : Type) → List (DataW H) → Bool := fun _ ds => decide (uptoBulkAll ds ≤ 1048576)
def OpenSpec.upto (s : _root_.Go.ChangeSpec) : _root_.Go.OpenSpec := { _root_.Go.OpenSpec.ofChange s with cond := some uptoSmall }

/-- 'butterylaw11.ShardKeeps', WHERE WHAT IT READS IS OF BULK AT MOST 1048576: true; the input reads as it did. -/
def shardKeepsUptoRow : OpenClaim := { program := "ytkchlibkfafgdaa", sum := "d2d0af218ae386672f5581b12b0d8c5539f97f0ec514c83cd7115dcb3b76ee01", func := "buttery/butterylaw11.ShardKeeps", spec := "shardKeeps", unfollowed := true, recurses := true, plainKeys := false, apart := false, narrowed := true }
def ShardKeepsUptoSaid : Prop := shardKeepsUptoRow.holds Try.pinned (OpenSpec.upto shardKeepsSpec)

/-- 'butterylaw11.ShardBudget', WHERE WHAT IT READS IS OF BULK AT MOST 1048576: true; the input reads as it did. -/
def shardBudgetUptoRow : OpenClaim := { program := "ytkchlibkfafgdaa", sum := "d2d0af218ae386672f5581b12b0d8c5539f97f0ec514c83cd7115dcb3b76ee01", func := "buttery/butterylaw11.ShardBudget", spec := "shardBudget", inPlace := ["internal/bytealg.abigen_runtime_cmpstring"], unfollowed := true, recurses := true, plainKeys := false, apart := false, narrowed := true }
def ShardBudgetUptoSaid : Prop := shardBudgetUptoRow.holds Try.pinned (OpenSpec.upto shardBudgetSpec)

/-- 'butterylaw11.ShardRemoves', WHERE WHAT IT READS IS OF BULK AT MOST 1048576: true; the input reads as it did. -/
def shardRemovesUptoRow : OpenClaim := { program := "ytkchlibkfafgdaa", sum := "d2d0af218ae386672f5581b12b0d8c5539f97f0ec514c83cd7115dcb3b76ee01", func := "buttery/butterylaw11.ShardRemoves", spec := "shardRemoves", inPlace := ["internal/bytealg.abigen_runtime_cmpstring"], unfollowed := true, recurses := true, plainKeys := false, apart := false, narrowed := true }
def ShardRemovesUptoSaid : Prop := shardRemovesUptoRow.holds Try.pinned (OpenSpec.upto shardRemovesSpec)

/-- 'butterylaw11.ShardOwn', WHERE WHAT IT READS IS OF BULK AT MOST 1048576: true; the input reads as it did. -/
def shardOwnUptoRow : OpenClaim := { program := "ytkchlibkfafgdaa", sum := "d2d0af218ae386672f5581b12b0d8c5539f97f0ec514c83cd7115dcb3b76ee01", func := "buttery/butterylaw11.ShardOwn", spec := "shardOwn", inPlace := ["internal/bytealg.abigen_runtime_cmpstring"], unfollowed := true, recurses := true, plainKeys := false, apart := false, narrowed := true }
def ShardOwnUptoSaid : Prop := shardOwnUptoRow.holds Try.pinned (OpenSpec.upto shardOwnSpec)

/-- 'butterylaw11.ShardLooks', WHERE WHAT IT READS IS OF BULK AT MOST 1048576: true; the input reads as it did. -/
def shardLooksUptoRow : OpenClaim := { program := "ytkchlibkfafgdaa", sum := "d2d0af218ae386672f5581b12b0d8c5539f97f0ec514c83cd7115dcb3b76ee01", func := "buttery/butterylaw11.ShardLooks", spec := "shardLooks", inPlace := ["internal/bytealg.abigen_runtime_cmpstring"], unfollowed := true, recurses := true, plainKeys := false, apart := false, narrowed := true }
def ShardLooksUptoSaid : Prop := shardLooksUptoRow.holds Try.pinned (OpenSpec.upto shardLooksSpec)

/-- 'butterylaw11.ShardUpdates', WHERE WHAT IT READS IS OF BULK AT MOST 1048576: true; the input reads as it did. -/
def shardUpdatesUptoRow : OpenClaim := { program := "ytkchlibkfafgdaa", sum := "d2d0af218ae386672f5581b12b0d8c5539f97f0ec514c83cd7115dcb3b76ee01", func := "buttery/butterylaw11.ShardUpdates", spec := "shardUpdates", inPlace := ["internal/bytealg.abigen_runtime_cmpstring"], unfollowed := true, recurses := true, plainKeys := false, apart := false, narrowed := true }
def ShardUpdatesUptoSaid : Prop := shardUpdatesUptoRow.holds Try.pinned (OpenSpec.upto shardUpdatesSpec)

end Rows
end Go.Proofs.Ytkchlibkfafgdaa
