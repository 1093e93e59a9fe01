/-
  NARROWER THAN 'FOR EVERY INPUT', by the rows' own cells (each row's printed sentence says how): ExecTells: laid · ExecAsks: laid · ExecWins: laid · ExecAdds: laid · ExecJoins: laid · ExecDeletes: laid · ExecSwaps: laid · ExecTouches: laid.
  DERIVED. THE GIVEN ROWS OF THIS SEAT. 8 by the template 'for every input the law returns true; each argument reads behind the call as it read before'; 0 by the template 'total and deterministic' (their statements: YtodoglljjhdbeaaGreatDoorTotals.lean).
  GIVEN WITH THE SEED: the statements are not yours to turn. If you find one false, say at which input.
  Laid BY PROGRAM, IN A SANDBOX (cutbox-rows.mjs): the forced cells as the released guide's own fill.sh prints them over the translation b4bf5c0ec2c23e2f… (all of the seat's roots in one cut). By AI agents, Wed Nov 11 2026. No macro, syntax, notation, axiom, sorry.
-/
import Derived.Test.YtodoglljjhdbeaaGreatDoorChecked
import GoSem.Claim
import GoSem.ClaimJoined
import GoSem.ClaimMapViews
import Derived.JoinedTies
import Derived.KernelRfl
namespace Go.Proofs.YtodoglljjhdbeaaGreatDoor
/- THE CELL 'sum', in the pinned program and in every row, IS THE sha256 OF THE DUMP (.gsa) THAT YtodoglljjhdbeaaGreatDoorProg.lean LOADS. Nothing in Lean hashes anything: it is a label: what it is worth is what the hold of that sum in a sandbox is worth. -/
noncomputable def Tryz.pinned : Pinned := { name := "ytodoglljjhdbeaagreatdoor", sum := "b4bf5c0ec2c23e2fd3f30d7768779ba7fa791c834ec1a4251d4eb8c5c88fe1df", checked := Tryz.checked }
namespace Rows
def none {H : Type} : Left H := { results := [], args := [] }

/- WHAT THE LISTED PACKAGE-LEVEL VARIABLES READ AS WHEN THE CALL BEGINS. Each datum BY PROGRAM (the guide's laid-datum.mjs) off the statement by which the dump's own 'gosem.cut.vars' lays the variable. In a bare row this is a premise. The card (YtodoglljjhdbeaaGreatDoorCards.lean) ties it to the program's text. -/
def laid_math_bits_deBruijn32tab {H : Type} : DataW H := .agg [.lit (.int .u8 0), .lit (.int .u8 1), .lit (.int .u8 28), .lit (.int .u8 2), .lit (.int .u8 29), .lit (.int .u8 14), .lit (.int .u8 24), .lit (.int .u8 3), .lit (.int .u8 30), .lit (.int .u8 22), .lit (.int .u8 20), .lit (.int .u8 15), .lit (.int .u8 25), .lit (.int .u8 17), .lit (.int .u8 4), .lit (.int .u8 8), .lit (.int .u8 31), .lit (.int .u8 27), .lit (.int .u8 13), .lit (.int .u8 23), .lit (.int .u8 21), .lit (.int .u8 19), .lit (.int .u8 16), .lit (.int .u8 7), .lit (.int .u8 26), .lit (.int .u8 12), .lit (.int .u8 18), .lit (.int .u8 6), .lit (.int .u8 11), .lit (.int .u8 5), .lit (.int .u8 10), .lit (.int .u8 9)]
def laid_math_bits_deBruijn64tab {H : Type} : DataW H := .agg [.lit (.int .u8 0), .lit (.int .u8 1), .lit (.int .u8 56), .lit (.int .u8 2), .lit (.int .u8 57), .lit (.int .u8 49), .lit (.int .u8 28), .lit (.int .u8 3), .lit (.int .u8 61), .lit (.int .u8 58), .lit (.int .u8 42), .lit (.int .u8 50), .lit (.int .u8 38), .lit (.int .u8 29), .lit (.int .u8 17), .lit (.int .u8 4), .lit (.int .u8 62), .lit (.int .u8 47), .lit (.int .u8 59), .lit (.int .u8 36), .lit (.int .u8 45), .lit (.int .u8 43), .lit (.int .u8 51), .lit (.int .u8 22), .lit (.int .u8 53), .lit (.int .u8 39), .lit (.int .u8 33), .lit (.int .u8 30), .lit (.int .u8 24), .lit (.int .u8 18), .lit (.int .u8 12), .lit (.int .u8 5), .lit (.int .u8 63), .lit (.int .u8 55), .lit (.int .u8 48), .lit (.int .u8 27), .lit (.int .u8 60), .lit (.int .u8 41), .lit (.int .u8 37), .lit (.int .u8 16), .lit (.int .u8 46), .lit (.int .u8 35), .lit (.int .u8 44), .lit (.int .u8 21), .lit (.int .u8 52), .lit (.int .u8 32), .lit (.int .u8 23), .lit (.int .u8 11), .lit (.int .u8 54), .lit (.int .u8 26), .lit (.int .u8 40), .lit (.int .u8 15), .lit (.int .u8 34), .lit (.int .u8 20), .lit (.int .u8 31), .lit (.int .u8 10), .lit (.int .u8 25), .lit (.int .u8 14), .lit (.int .u8 19), .lit (.int .u8 9), .lit (.int .u8 13), .lit (.int .u8 8), .lit (.int .u8 7), .lit (.int .u8 6)]
def laid_internal_strconv_uint64pow10 {H : Type} : DataW H := .agg [.lit (.int .u64 1), .lit (.int .u64 10), .lit (.int .u64 100), .lit (.int .u64 1000), .lit (.int .u64 10000), .lit (.int .u64 100000), .lit (.int .u64 1000000), .lit (.int .u64 10000000), .lit (.int .u64 100000000), .lit (.int .u64 1000000000), .lit (.int .u64 10000000000), .lit (.int .u64 100000000000), .lit (.int .u64 1000000000000), .lit (.int .u64 10000000000000), .lit (.int .u64 100000000000000), .lit (.int .u64 1000000000000000), .lit (.int .u64 10000000000000000), .lit (.int .u64 100000000000000000), .lit (.int .u64 1000000000000000000), .lit (.int .u64 10000000000000000000)]
def laid_strconv_ErrRange {H : Type} : DataW H := .iface "*errors.errorString" (.ptr (.agg [.lit (.string [118, 97, 108, 117, 101, 32, 111, 117, 116, 32, 111, 102, 32, 114, 97, 110, 103, 101])]))
def laid_strconv_ErrSyntax {H : Type} : DataW H := .iface "*errors.errorString" (.ptr (.agg [.lit (.string [105, 110, 118, 97, 108, 105, 100, 32, 115, 121, 110, 116, 97, 120])]))

/-- 'butterylaw12.ExecTells': WHATEVER THE INPUT: true; the input reads as it did. -/
def execTellsSpec : ChangeSpec := { name := "execTells", fn := fun _ => fun
  | [d1, d2] => { results := [.lit (.bool true)], args := [d1, d2] }
  | _ => none }
def execTellsRow : OpenClaim := { program := "ytodoglljjhdbeaagreatdoor", sum := "b4bf5c0ec2c23e2fd3f30d7768779ba7fa791c834ec1a4251d4eb8c5c88fe1df", func := "buttery/butterylaw12.ExecTells", spec := "execTells", unfollowed := true, recurses := true, named := ["internal/strconv.uint64pow10", "math/bits.deBruijn32tab", "math/bits.deBruijn64tab", "strconv.ErrSyntax", "strconv.ErrRange"], plainKeys := false, apart := false, laid := [("math/bits.deBruijn32tab", laid_math_bits_deBruijn32tab), ("math/bits.deBruijn64tab", laid_math_bits_deBruijn64tab), ("internal/strconv.uint64pow10", laid_internal_strconv_uint64pow10), ("strconv.ErrRange", laid_strconv_ErrRange), ("strconv.ErrSyntax", laid_strconv_ErrSyntax)] }
def ExecTellsSaid : Prop := execTellsRow.holds Tryz.pinned (OpenSpec.ofChange execTellsSpec)

/-- ITS FALSE NEIGHBOUR: 'it returns false'. Refute it at one input. -/
def execTellsWrong : ChangeSpec := { name := "execTells", fn := fun _ => fun
  | [d1, d2] => { results := [.lit (.bool false)], args := [d1, d2] }
  | _ => none }
def ExecTellsWrongFalsely : Prop := execTellsRow.holds Tryz.pinned (OpenSpec.ofChange execTellsWrong)

/-- 'butterylaw12.ExecAsks': WHATEVER THE INPUT: true; the input reads as it did. -/
def execAsksSpec : ChangeSpec := { name := "execAsks", fn := fun _ => fun
  | [d1, d2, d3, d4] => { results := [.lit (.bool true)], args := [d1, d2, d3, d4] }
  | _ => none }
def execAsksRow : OpenClaim := { program := "ytodoglljjhdbeaagreatdoor", sum := "b4bf5c0ec2c23e2fd3f30d7768779ba7fa791c834ec1a4251d4eb8c5c88fe1df", func := "buttery/butterylaw12.ExecAsks", spec := "execAsks", unfollowed := true, recurses := true, named := ["internal/strconv.uint64pow10", "math/bits.deBruijn32tab", "math/bits.deBruijn64tab", "strconv.ErrSyntax", "strconv.ErrRange"], plainKeys := false, apart := false, laid := [("math/bits.deBruijn32tab", laid_math_bits_deBruijn32tab), ("math/bits.deBruijn64tab", laid_math_bits_deBruijn64tab), ("internal/strconv.uint64pow10", laid_internal_strconv_uint64pow10), ("strconv.ErrRange", laid_strconv_ErrRange), ("strconv.ErrSyntax", laid_strconv_ErrSyntax)] }
def ExecAsksSaid : Prop := execAsksRow.holds Tryz.pinned (OpenSpec.ofChange execAsksSpec)

/-- ITS FALSE NEIGHBOUR: 'it returns false'. Refute it at one input. -/
def execAsksWrong : ChangeSpec := { name := "execAsks", fn := fun _ => fun
  | [d1, d2, d3, d4] => { results := [.lit (.bool false)], args := [d1, d2, d3, d4] }
  | _ => none }
def ExecAsksWrongFalsely : Prop := execAsksRow.holds Tryz.pinned (OpenSpec.ofChange execAsksWrong)

/-- 'butterylaw12.ExecWins': WHATEVER THE INPUT: true; the input reads as it did. -/
def execWinsSpec : ChangeSpec := { name := "execWins", fn := fun _ => fun
  | [d1, d2, d3, d4] => { results := [.lit (.bool true)], args := [d1, d2, d3, d4] }
  | _ => none }
def execWinsRow : OpenClaim := { program := "ytodoglljjhdbeaagreatdoor", sum := "b4bf5c0ec2c23e2fd3f30d7768779ba7fa791c834ec1a4251d4eb8c5c88fe1df", func := "buttery/butterylaw12.ExecWins", spec := "execWins", unfollowed := true, recurses := true, named := ["internal/strconv.uint64pow10", "math/bits.deBruijn32tab", "math/bits.deBruijn64tab", "strconv.ErrSyntax", "strconv.ErrRange"], plainKeys := false, apart := false, laid := [("math/bits.deBruijn32tab", laid_math_bits_deBruijn32tab), ("math/bits.deBruijn64tab", laid_math_bits_deBruijn64tab), ("internal/strconv.uint64pow10", laid_internal_strconv_uint64pow10), ("strconv.ErrRange", laid_strconv_ErrRange), ("strconv.ErrSyntax", laid_strconv_ErrSyntax)] }
def ExecWinsSaid : Prop := execWinsRow.holds Tryz.pinned (OpenSpec.ofChange execWinsSpec)

/-- ITS FALSE NEIGHBOUR: 'it returns false'. Refute it at one input. -/
def execWinsWrong : ChangeSpec := { name := "execWins", fn := fun _ => fun
  | [d1, d2, d3, d4] => { results := [.lit (.bool false)], args := [d1, d2, d3, d4] }
  | _ => none }
def ExecWinsWrongFalsely : Prop := execWinsRow.holds Tryz.pinned (OpenSpec.ofChange execWinsWrong)

/-- 'butterylaw12.ExecAdds': WHATEVER THE INPUT: true; the input reads as it did. -/
def execAddsSpec : ChangeSpec := { name := "execAdds", fn := fun _ => fun
  | [d1, d2, d3, d4, d5] => { results := [.lit (.bool true)], args := [d1, d2, d3, d4, d5] }
  | _ => none }
def execAddsRow : OpenClaim := { program := "ytodoglljjhdbeaagreatdoor", sum := "b4bf5c0ec2c23e2fd3f30d7768779ba7fa791c834ec1a4251d4eb8c5c88fe1df", func := "buttery/butterylaw12.ExecAdds", spec := "execAdds", unfollowed := true, recurses := true, named := ["internal/strconv.uint64pow10", "math/bits.deBruijn32tab", "math/bits.deBruijn64tab", "strconv.ErrSyntax", "strconv.ErrRange"], plainKeys := false, apart := false, laid := [("math/bits.deBruijn32tab", laid_math_bits_deBruijn32tab), ("math/bits.deBruijn64tab", laid_math_bits_deBruijn64tab), ("internal/strconv.uint64pow10", laid_internal_strconv_uint64pow10), ("strconv.ErrRange", laid_strconv_ErrRange), ("strconv.ErrSyntax", laid_strconv_ErrSyntax)] }
def ExecAddsSaid : Prop := execAddsRow.holds Tryz.pinned (OpenSpec.ofChange execAddsSpec)

/-- ITS FALSE NEIGHBOUR: 'it returns false'. Refute it at one input. -/
def execAddsWrong : ChangeSpec := { name := "execAdds", fn := fun _ => fun
  | [d1, d2, d3, d4, d5] => { results := [.lit (.bool false)], args := [d1, d2, d3, d4, d5] }
  | _ => none }
def ExecAddsWrongFalsely : Prop := execAddsRow.holds Tryz.pinned (OpenSpec.ofChange execAddsWrong)

/-- 'butterylaw12.ExecJoins': WHATEVER THE INPUT: true; the input reads as it did. -/
def execJoinsSpec : ChangeSpec := { name := "execJoins", fn := fun _ => fun
  | [d1, d2, d3, d4, d5] => { results := [.lit (.bool true)], args := [d1, d2, d3, d4, d5] }
  | _ => none }
def execJoinsRow : OpenClaim := { program := "ytodoglljjhdbeaagreatdoor", sum := "b4bf5c0ec2c23e2fd3f30d7768779ba7fa791c834ec1a4251d4eb8c5c88fe1df", func := "buttery/butterylaw12.ExecJoins", spec := "execJoins", unfollowed := true, recurses := true, named := ["internal/strconv.uint64pow10", "math/bits.deBruijn32tab", "math/bits.deBruijn64tab", "strconv.ErrSyntax", "strconv.ErrRange"], plainKeys := false, apart := false, laid := [("math/bits.deBruijn32tab", laid_math_bits_deBruijn32tab), ("math/bits.deBruijn64tab", laid_math_bits_deBruijn64tab), ("internal/strconv.uint64pow10", laid_internal_strconv_uint64pow10), ("strconv.ErrRange", laid_strconv_ErrRange), ("strconv.ErrSyntax", laid_strconv_ErrSyntax)] }
def ExecJoinsSaid : Prop := execJoinsRow.holds Tryz.pinned (OpenSpec.ofChange execJoinsSpec)

/-- ITS FALSE NEIGHBOUR: 'it returns false'. Refute it at one input. -/
def execJoinsWrong : ChangeSpec := { name := "execJoins", fn := fun _ => fun
  | [d1, d2, d3, d4, d5] => { results := [.lit (.bool false)], args := [d1, d2, d3, d4, d5] }
  | _ => none }
def ExecJoinsWrongFalsely : Prop := execJoinsRow.holds Tryz.pinned (OpenSpec.ofChange execJoinsWrong)

/-- 'butterylaw12.ExecDeletes': WHATEVER THE INPUT: true; the input reads as it did. -/
def execDeletesSpec : ChangeSpec := { name := "execDeletes", fn := fun _ => fun
  | [d1, d2] => { results := [.lit (.bool true)], args := [d1, d2] }
  | _ => none }
def execDeletesRow : OpenClaim := { program := "ytodoglljjhdbeaagreatdoor", sum := "b4bf5c0ec2c23e2fd3f30d7768779ba7fa791c834ec1a4251d4eb8c5c88fe1df", func := "buttery/butterylaw12.ExecDeletes", spec := "execDeletes", unfollowed := true, recurses := true, named := ["internal/strconv.uint64pow10", "math/bits.deBruijn32tab", "math/bits.deBruijn64tab", "strconv.ErrSyntax", "strconv.ErrRange"], plainKeys := false, apart := false, laid := [("math/bits.deBruijn32tab", laid_math_bits_deBruijn32tab), ("math/bits.deBruijn64tab", laid_math_bits_deBruijn64tab), ("internal/strconv.uint64pow10", laid_internal_strconv_uint64pow10), ("strconv.ErrRange", laid_strconv_ErrRange), ("strconv.ErrSyntax", laid_strconv_ErrSyntax)] }
def ExecDeletesSaid : Prop := execDeletesRow.holds Tryz.pinned (OpenSpec.ofChange execDeletesSpec)

/-- ITS FALSE NEIGHBOUR: 'it returns false'. Refute it at one input. -/
def execDeletesWrong : ChangeSpec := { name := "execDeletes", fn := fun _ => fun
  | [d1, d2] => { results := [.lit (.bool false)], args := [d1, d2] }
  | _ => none }
def ExecDeletesWrongFalsely : Prop := execDeletesRow.holds Tryz.pinned (OpenSpec.ofChange execDeletesWrong)

/-- 'butterylaw12.ExecSwaps': WHATEVER THE INPUT: true; the input reads as it did. -/
def execSwapsSpec : ChangeSpec := { name := "execSwaps", fn := fun _ => fun
  | [d1, d2, d3] => { results := [.lit (.bool true)], args := [d1, d2, d3] }
  | _ => none }
def execSwapsRow : OpenClaim := { program := "ytodoglljjhdbeaagreatdoor", sum := "b4bf5c0ec2c23e2fd3f30d7768779ba7fa791c834ec1a4251d4eb8c5c88fe1df", func := "buttery/butterylaw12.ExecSwaps", spec := "execSwaps", unfollowed := true, recurses := true, named := ["internal/strconv.uint64pow10", "math/bits.deBruijn32tab", "math/bits.deBruijn64tab", "strconv.ErrSyntax", "strconv.ErrRange"], plainKeys := false, apart := false, laid := [("math/bits.deBruijn32tab", laid_math_bits_deBruijn32tab), ("math/bits.deBruijn64tab", laid_math_bits_deBruijn64tab), ("internal/strconv.uint64pow10", laid_internal_strconv_uint64pow10), ("strconv.ErrRange", laid_strconv_ErrRange), ("strconv.ErrSyntax", laid_strconv_ErrSyntax)] }
def ExecSwapsSaid : Prop := execSwapsRow.holds Tryz.pinned (OpenSpec.ofChange execSwapsSpec)

/-- ITS FALSE NEIGHBOUR: 'it returns false'. Refute it at one input. -/
def execSwapsWrong : ChangeSpec := { name := "execSwaps", fn := fun _ => fun
  | [d1, d2, d3] => { results := [.lit (.bool false)], args := [d1, d2, d3] }
  | _ => none }
def ExecSwapsWrongFalsely : Prop := execSwapsRow.holds Tryz.pinned (OpenSpec.ofChange execSwapsWrong)

/-- 'butterylaw12.ExecTouches': WHATEVER THE INPUT: true; the input reads as it did. -/
def execTouchesSpec : ChangeSpec := { name := "execTouches", fn := fun _ => fun
  | [d1, d2, d3, d4, d5] => { results := [.lit (.bool true)], args := [d1, d2, d3, d4, d5] }
  | _ => none }
def execTouchesRow : OpenClaim := { program := "ytodoglljjhdbeaagreatdoor", sum := "b4bf5c0ec2c23e2fd3f30d7768779ba7fa791c834ec1a4251d4eb8c5c88fe1df", func := "buttery/butterylaw12.ExecTouches", spec := "execTouches", unfollowed := true, recurses := true, named := ["internal/strconv.uint64pow10", "math/bits.deBruijn32tab", "math/bits.deBruijn64tab", "strconv.ErrSyntax", "strconv.ErrRange"], plainKeys := false, apart := false, laid := [("math/bits.deBruijn32tab", laid_math_bits_deBruijn32tab), ("math/bits.deBruijn64tab", laid_math_bits_deBruijn64tab), ("internal/strconv.uint64pow10", laid_internal_strconv_uint64pow10), ("strconv.ErrRange", laid_strconv_ErrRange), ("strconv.ErrSyntax", laid_strconv_ErrSyntax)] }
def ExecTouchesSaid : Prop := execTouchesRow.holds Tryz.pinned (OpenSpec.ofChange execTouchesSpec)

/-- ITS FALSE NEIGHBOUR: 'it returns false'. Refute it at one input. -/
def execTouchesWrong : ChangeSpec := { name := "execTouches", fn := fun _ => fun
  | [d1, d2, d3, d4, d5] => { results := [.lit (.bool false)], args := [d1, d2, d3, d4, d5] }
  | _ => none }
def ExecTouchesWrongFalsely : Prop := execTouchesRow.holds Tryz.pinned (OpenSpec.ofChange execTouchesWrong)

/- THE SECOND FORM. 'bulk': how many values and letters a reading holds, each counted each time it is reached (what is shared counts as often as it is met; a slice's spare places count too). A statement '..UptoSaid' is the law's where the arguments, and the package variables that the reading takes, are together of bulk at most 1048576: NARROWER than '..Said'. Prove '..Said' where nothing that the law and all that it calls make is longer than what came in: it says more and counts as full. Else prove '..UptoSaid'. A law counts once. -/
mutual
def uptoBulk {H : Type} : DataW H → Nat
  | .lit (.string bytes) => bytes.length + 1
  | .lit _ => 1
  | .nil => 1
  | .ptr d => uptoBulk d + 1
  | .slice elems spare => uptoBulkAll elems + uptoBulkAll spare + 1
  | .agg parts => uptoBulkAll parts + 1
  | .iface _ d => uptoBulk d + 1
  | .map entries => uptoBulkEntries entries + 1
  | .held _ => 1
def uptoBulkAll {H : Type} : List (DataW H) → Nat
  | [] => 0
  | d :: r => uptoBulk d + uptoBulkAll r
def uptoBulkEntries {H : Type} : List (Lit × DataW H) → Nat
  | [] => 0
  | x :: r => uptoBulkEntry x + uptoBulkEntries r
def uptoBulkEntry {H : Type} : Lit × DataW H → Nat
  | (.string bytes, d) => bytes.length + uptoBulk d + 1
  | (_, d) => uptoBulk d + 1
 end
def uptoSmall : (H : Type) → List (DataW H) → Bool := fun _ ds => decide (uptoBulkAll ds ≤ 1048576)
def OpenSpec.upto (s : _root_.Go.ChangeSpec) : _root_.Go.OpenSpec := { _root_.Go.OpenSpec.ofChange s with cond := some uptoSmall }

/-- 'butterylaw12.ExecTells', WHERE WHAT IT READS IS OF BULK AT MOST 1048576: true; the input reads as it did. -/
def execTellsUptoRow : OpenClaim := { program := "ytodoglljjhdbeaagreatdoor", sum := "b4bf5c0ec2c23e2fd3f30d7768779ba7fa791c834ec1a4251d4eb8c5c88fe1df", func := "buttery/butterylaw12.ExecTells", spec := "execTells", unfollowed := true, recurses := true, named := ["internal/strconv.uint64pow10", "math/bits.deBruijn32tab", "math/bits.deBruijn64tab", "strconv.ErrSyntax", "strconv.ErrRange"], plainKeys := false, apart := false, laid := [("math/bits.deBruijn32tab", laid_math_bits_deBruijn32tab), ("math/bits.deBruijn64tab", laid_math_bits_deBruijn64tab), ("internal/strconv.uint64pow10", laid_internal_strconv_uint64pow10), ("strconv.ErrRange", laid_strconv_ErrRange), ("strconv.ErrSyntax", laid_strconv_ErrSyntax)], narrowed := true }
def ExecTellsUptoSaid : Prop := execTellsUptoRow.holds Tryz.pinned (OpenSpec.upto execTellsSpec)

/-- 'butterylaw12.ExecAsks', WHERE WHAT IT READS IS OF BULK AT MOST 1048576: true; the input reads as it did. -/
def execAsksUptoRow : OpenClaim := { program := "ytodoglljjhdbeaagreatdoor", sum := "b4bf5c0ec2c23e2fd3f30d7768779ba7fa791c834ec1a4251d4eb8c5c88fe1df", func := "buttery/butterylaw12.ExecAsks", spec := "execAsks", unfollowed := true, recurses := true, named := ["internal/strconv.uint64pow10", "math/bits.deBruijn32tab", "math/bits.deBruijn64tab", "strconv.ErrSyntax", "strconv.ErrRange"], plainKeys := false, apart := false, laid := [("math/bits.deBruijn32tab", laid_math_bits_deBruijn32tab), ("math/bits.deBruijn64tab", laid_math_bits_deBruijn64tab), ("internal/strconv.uint64pow10", laid_internal_strconv_uint64pow10), ("strconv.ErrRange", laid_strconv_ErrRange), ("strconv.ErrSyntax", laid_strconv_ErrSyntax)], narrowed := true }
def ExecAsksUptoSaid : Prop := execAsksUptoRow.holds Tryz.pinned (OpenSpec.upto execAsksSpec)

/-- 'butterylaw12.ExecWins', WHERE WHAT IT READS IS OF BULK AT MOST 1048576: true; the input reads as it did. -/
def execWinsUptoRow : OpenClaim := { program := "ytodoglljjhdbeaagreatdoor", sum := "b4bf5c0ec2c23e2fd3f30d7768779ba7fa791c834ec1a4251d4eb8c5c88fe1df", func := "buttery/butterylaw12.ExecWins", spec := "execWins", unfollowed := true, recurses := true, named := ["internal/strconv.uint64pow10", "math/bits.deBruijn32tab", "math/bits.deBruijn64tab", "strconv.ErrSyntax", "strconv.ErrRange"], plainKeys := false, apart := false, laid := [("math/bits.deBruijn32tab", laid_math_bits_deBruijn32tab), ("math/bits.deBruijn64tab", laid_math_bits_deBruijn64tab), ("internal/strconv.uint64pow10", laid_internal_strconv_uint64pow10), ("strconv.ErrRange", laid_strconv_ErrRange), ("strconv.ErrSyntax", laid_strconv_ErrSyntax)], narrowed := true }
def ExecWinsUptoSaid : Prop := execWinsUptoRow.holds Tryz.pinned (OpenSpec.upto execWinsSpec)

/-- 'butterylaw12.ExecAdds', WHERE WHAT IT READS IS OF BULK AT MOST 1048576: true; the input reads as it did. -/
def execAddsUptoRow : OpenClaim := { program := "ytodoglljjhdbeaagreatdoor", sum := "b4bf5c0ec2c23e2fd3f30d7768779ba7fa791c834ec1a4251d4eb8c5c88fe1df", func := "buttery/butterylaw12.ExecAdds", spec := "execAdds", unfollowed := true, recurses := true, named := ["internal/strconv.uint64pow10", "math/bits.deBruijn32tab", "math/bits.deBruijn64tab", "strconv.ErrSyntax", "strconv.ErrRange"], plainKeys := false, apart := false, laid := [("math/bits.deBruijn32tab", laid_math_bits_deBruijn32tab), ("math/bits.deBruijn64tab", laid_math_bits_deBruijn64tab), ("internal/strconv.uint64pow10", laid_internal_strconv_uint64pow10), ("strconv.ErrRange", laid_strconv_ErrRange), ("strconv.ErrSyntax", laid_strconv_ErrSyntax)], narrowed := true }
def ExecAddsUptoSaid : Prop := execAddsUptoRow.holds Tryz.pinned (OpenSpec.upto execAddsSpec)

/-- 'butterylaw12.ExecJoins', WHERE WHAT IT READS IS OF BULK AT MOST 1048576: true; the input reads as it did. -/
def execJoinsUptoRow : OpenClaim := { program := "ytodoglljjhdbeaagreatdoor", sum := "b4bf5c0ec2c23e2fd3f30d7768779ba7fa791c834ec1a4251d4eb8c5c88fe1df", func := "buttery/butterylaw12.ExecJoins", spec := "execJoins", unfollowed := true, recurses := true, named := ["internal/strconv.uint64pow10", "math/bits.deBruijn32tab", "math/bits.deBruijn64tab", "strconv.ErrSyntax", "strconv.ErrRange"], plainKeys := false, apart := false, laid := [("math/bits.deBruijn32tab", laid_math_bits_deBruijn32tab), ("math/bits.deBruijn64tab", laid_math_bits_deBruijn64tab), ("internal/strconv.uint64pow10", laid_internal_strconv_uint64pow10), ("strconv.ErrRange", laid_strconv_ErrRange), ("strconv.ErrSyntax", laid_strconv_ErrSyntax)], narrowed := true }
def ExecJoinsUptoSaid : Prop := execJoinsUptoRow.holds Tryz.pinned (OpenSpec.upto execJoinsSpec)

/-- 'butterylaw12.ExecDeletes', WHERE WHAT IT READS IS OF BULK AT MOST 1048576: true; the input reads as it did. -/
def execDeletesUptoRow : OpenClaim := { program := "ytodoglljjhdbeaagreatdoor", sum := "b4bf5c0ec2c23e2fd3f30d7768779ba7fa791c834ec1a4251d4eb8c5c88fe1df", func := "buttery/butterylaw12.ExecDeletes", spec := "execDeletes", unfollowed := true, recurses := true, named := ["internal/strconv.uint64pow10", "math/bits.deBruijn32tab", "math/bits.deBruijn64tab", "strconv.ErrSyntax", "strconv.ErrRange"], plainKeys := false, apart := false, laid := [("math/bits.deBruijn32tab", laid_math_bits_deBruijn32tab), ("math/bits.deBruijn64tab", laid_math_bits_deBruijn64tab), ("internal/strconv.uint64pow10", laid_internal_strconv_uint64pow10), ("strconv.ErrRange", laid_strconv_ErrRange), ("strconv.ErrSyntax", laid_strconv_ErrSyntax)], narrowed := true }
def ExecDeletesUptoSaid : Prop := execDeletesUptoRow.holds Tryz.pinned (OpenSpec.upto execDeletesSpec)

/-- 'butterylaw12.ExecSwaps', WHERE WHAT IT READS IS OF BULK AT MOST 1048576: true; the input reads as it did. -/
def execSwapsUptoRow : OpenClaim := { program := "ytodoglljjhdbeaagreatdoor", sum := "b4bf5c0ec2c23e2fd3f30d7768779ba7fa791c834ec1a4251d4eb8c5c88fe1df", func := "buttery/butterylaw12.ExecSwaps", spec := "execSwaps", unfollowed := true, recurses := true, named := ["internal/strconv.uint64pow10", "math/bits.deBruijn32tab", "math/bits.deBruijn64tab", "strconv.ErrSyntax", "strconv.ErrRange"], plainKeys := false, apart := false, laid := [("math/bits.deBruijn32tab", laid_math_bits_deBruijn32tab), ("math/bits.deBruijn64tab", laid_math_bits_deBruijn64tab), ("internal/strconv.uint64pow10", laid_internal_strconv_uint64pow10), ("strconv.ErrRange", laid_strconv_ErrRange), ("strconv.ErrSyntax", laid_strconv_ErrSyntax)], narrowed := true }
def ExecSwapsUptoSaid : Prop := execSwapsUptoRow.holds Tryz.pinned (OpenSpec.upto execSwapsSpec)

/-- 'butterylaw12.ExecTouches', WHERE WHAT IT READS IS OF BULK AT MOST 1048576: true; the input reads as it did. -/
def execTouchesUptoRow : OpenClaim := { program := "ytodoglljjhdbeaagreatdoor", sum := "b4bf5c0ec2c23e2fd3f30d7768779ba7fa791c834ec1a4251d4eb8c5c88fe1df", func := "buttery/butterylaw12.ExecTouches", spec := "execTouches", unfollowed := true, recurses := true, named := ["internal/strconv.uint64pow10", "math/bits.deBruijn32tab", "math/bits.deBruijn64tab", "strconv.ErrSyntax", "strconv.ErrRange"], plainKeys := false, apart := false, laid := [("math/bits.deBruijn32tab", laid_math_bits_deBruijn32tab), ("math/bits.deBruijn64tab", laid_math_bits_deBruijn64tab), ("internal/strconv.uint64pow10", laid_internal_strconv_uint64pow10), ("strconv.ErrRange", laid_strconv_ErrRange), ("strconv.ErrSyntax", laid_strconv_ErrSyntax)], narrowed := true }
def ExecTouchesUptoSaid : Prop := execTouchesUptoRow.holds Tryz.pinned (OpenSpec.upto execTouchesSpec)

end Rows
end Go.Proofs.YtodoglljjhdbeaaGreatDoor
