/-
  No cell of these rows narrows 'for every input' (looked for: loops, veiled, ifaces, maps, wideKeys, modest, calm, conditions, laid).
  DERIVED. THE GIVEN ROWS OF THIS SEAT. 15 by the template 'for every input the law returns true; each argument reads behind the call as it read before'; 0 by the template 'total and deterministic' (their statements: YtncdaadiadeeiaaTotals.lean).
  GIVEN WITH THE SEED: the statements are not yours to turn. If you find one false, say at which input.
  Laid BY PROGRAM, IN A SANDBOX (cutbox-rows.mjs): the forced cells as the released guide's own fill.sh prints them over the translation 8c664ea4c199243d… (all of the seat's roots in one cut). By AI agents, Wed Nov 11 2026. No macro, syntax, notation, axiom, sorry.
-/
import Derived.Test.YtncdaadiadeeiaaChecked
import GoSem.Claim
import GoSem.ClaimJoined
import GoSem.ClaimMapViews
import Derived.JoinedTies
import Derived.KernelRfl
namespace Go.Proofs.Ytncdaadiadeeiaa
/- THE CELL 'sum', in the pinned program and in every row, IS THE sha256 OF THE DUMP (.gsa) THAT YtncdaadiadeeiaaProg.lean LOADS. Nothing in Lean hashes anything: it is a label: what it is worth is what the hold of that sum in a sandbox is worth. -/
noncomputable def Try.pinned : Pinned := { name := "ytncdaadiadeeiaa", sum := "8c664ea4c199243dbf5aa4fc62a89d968efb02a9d2ef508d9b1ca3267b27194d", checked := Try.checked }
namespace Rows
def none {H : Type} : Left H := { results := [], args := [] }

/-- 'butterylaw05.SketchLeast': WHATEVER THE INPUT: true; the input reads as it did. -/
def sketchLeastSpec : ChangeSpec := { name := "sketchLeast", fn := fun _ => fun
  | [d1, d2, d3] => { results := [.lit (.bool true)], args := [d1, d2, d3] }
  | _ => none }
def sketchLeastRow : OpenClaim := { program := "ytncdaadiadeeiaa", sum := "8c664ea4c199243dbf5aa4fc62a89d968efb02a9d2ef508d9b1ca3267b27194d", func := "buttery/butterylaw05.SketchLeast", spec := "sketchLeast", unfollowed := true, recurses := true, apart := false }
def SketchLeastSaid : Prop := sketchLeastRow.holds Try.pinned (OpenSpec.ofChange sketchLeastSpec)

/-- ITS FALSE NEIGHBOUR: 'it returns false'. Refute it at one input. -/
def sketchLeastWrong : ChangeSpec := { name := "sketchLeast", fn := fun _ => fun
  | [d1, d2, d3] => { results := [.lit (.bool false)], args := [d1, d2, d3] }
  | _ => none }
def SketchLeastWrongFalsely : Prop := sketchLeastRow.holds Try.pinned (OpenSpec.ofChange sketchLeastWrong)

/-- 'butterylaw05.SketchHalves': WHATEVER THE INPUT: true; the input reads as it did. -/
def sketchHalvesSpec : ChangeSpec := { name := "sketchHalves", fn := fun _ => fun
  | [d1, d2, d3] => { results := [.lit (.bool true)], args := [d1, d2, d3] }
  | _ => none }
def sketchHalvesRow : OpenClaim := { program := "ytncdaadiadeeiaa", sum := "8c664ea4c199243dbf5aa4fc62a89d968efb02a9d2ef508d9b1ca3267b27194d", func := "buttery/butterylaw05.SketchHalves", spec := "sketchHalves", unfollowed := true, recurses := true, apart := false }
def SketchHalvesSaid : Prop := sketchHalvesRow.holds Try.pinned (OpenSpec.ofChange sketchHalvesSpec)

/-- ITS FALSE NEIGHBOUR: 'it returns false'. Refute it at one input. -/
def sketchHalvesWrong : ChangeSpec := { name := "sketchHalves", fn := fun _ => fun
  | [d1, d2, d3] => { results := [.lit (.bool false)], args := [d1, d2, d3] }
  | _ => none }
def SketchHalvesWrongFalsely : Prop := sketchHalvesRow.holds Try.pinned (OpenSpec.ofChange sketchHalvesWrong)

/-- 'butterylaw05.SketchAll': WHATEVER THE INPUT: true; the input reads as it did. -/
def sketchAllSpec : ChangeSpec := { name := "sketchAll", fn := fun _ => fun
  | [d1, d2, d3] => { results := [.lit (.bool true)], args := [d1, d2, d3] }
  | _ => none }
def sketchAllRow : OpenClaim := { program := "ytncdaadiadeeiaa", sum := "8c664ea4c199243dbf5aa4fc62a89d968efb02a9d2ef508d9b1ca3267b27194d", func := "buttery/butterylaw05.SketchAll", spec := "sketchAll", unfollowed := true, recurses := true, apart := false }
def SketchAllSaid : Prop := sketchAllRow.holds Try.pinned (OpenSpec.ofChange sketchAllSpec)

/-- ITS FALSE NEIGHBOUR: 'it returns false'. Refute it at one input. -/
def sketchAllWrong : ChangeSpec := { name := "sketchAll", fn := fun _ => fun
  | [d1, d2, d3] => { results := [.lit (.bool false)], args := [d1, d2, d3] }
  | _ => none }
def SketchAllWrongFalsely : Prop := sketchAllRow.holds Try.pinned (OpenSpec.ofChange sketchAllWrong)

/-- 'butterylaw05.SketchDoes': WHATEVER THE INPUT: true; the input reads as it did. -/
def sketchDoesSpec : ChangeSpec := { name := "sketchDoes", fn := fun _ => fun
  | [d1, d2] => { results := [.lit (.bool true)], args := [d1, d2] }
  | _ => none }
def sketchDoesRow : OpenClaim := { program := "ytncdaadiadeeiaa", sum := "8c664ea4c199243dbf5aa4fc62a89d968efb02a9d2ef508d9b1ca3267b27194d", func := "buttery/butterylaw05.SketchDoes", spec := "sketchDoes", unfollowed := true, recurses := true, apart := false }
def SketchDoesSaid : Prop := sketchDoesRow.holds Try.pinned (OpenSpec.ofChange sketchDoesSpec)

/-- ITS FALSE NEIGHBOUR: 'it returns false'. Refute it at one input. -/
def sketchDoesWrong : ChangeSpec := { name := "sketchDoes", fn := fun _ => fun
  | [d1, d2] => { results := [.lit (.bool false)], args := [d1, d2] }
  | _ => none }
def SketchDoesWrongFalsely : Prop := sketchDoesRow.holds Try.pinned (OpenSpec.ofChange sketchDoesWrong)

/-- 'butterylaw05.SketchApart': WHATEVER THE INPUT: true; the input reads as it did. -/
def sketchApartSpec : ChangeSpec := { name := "sketchApart", fn := fun _ => fun
  | [d1, d2, d3] => { results := [.lit (.bool true)], args := [d1, d2, d3] }
  | _ => none }
def sketchApartRow : OpenClaim := { program := "ytncdaadiadeeiaa", sum := "8c664ea4c199243dbf5aa4fc62a89d968efb02a9d2ef508d9b1ca3267b27194d", func := "buttery/butterylaw05.SketchApart", spec := "sketchApart", unfollowed := true, recurses := true, apart := false }
def SketchApartSaid : Prop := sketchApartRow.holds Try.pinned (OpenSpec.ofChange sketchApartSpec)

/-- ITS FALSE NEIGHBOUR: 'it returns false'. Refute it at one input. -/
def sketchApartWrong : ChangeSpec := { name := "sketchApart", fn := fun _ => fun
  | [d1, d2, d3] => { results := [.lit (.bool false)], args := [d1, d2, d3] }
  | _ => none }
def SketchApartWrongFalsely : Prop := sketchApartRow.holds Try.pinned (OpenSpec.ofChange sketchApartWrong)

/-- 'butterylaw04.BloomOrder': WHATEVER THE INPUT: true; the input reads as it did. -/
def bloomOrderSpec : ChangeSpec := { name := "bloomOrder", fn := fun _ => fun
  | [d1, d2, d3, d4] => { results := [.lit (.bool true)], args := [d1, d2, d3, d4] }
  | _ => none }
def bloomOrderRow : OpenClaim := { program := "ytncdaadiadeeiaa", sum := "8c664ea4c199243dbf5aa4fc62a89d968efb02a9d2ef508d9b1ca3267b27194d", func := "buttery/butterylaw04.BloomOrder", spec := "bloomOrder", unfollowed := true, recurses := true, apart := false }
def BloomOrderSaid : Prop := bloomOrderRow.holds Try.pinned (OpenSpec.ofChange bloomOrderSpec)

/-- ITS FALSE NEIGHBOUR: 'it returns false'. Refute it at one input. -/
def bloomOrderWrong : ChangeSpec := { name := "bloomOrder", fn := fun _ => fun
  | [d1, d2, d3, d4] => { results := [.lit (.bool false)], args := [d1, d2, d3, d4] }
  | _ => none }
def BloomOrderWrongFalsely : Prop := bloomOrderRow.holds Try.pinned (OpenSpec.ofChange bloomOrderWrong)

/-- 'butterylaw04.BloomGrows': WHATEVER THE INPUT: true; the input reads as it did. -/
def bloomGrowsSpec : ChangeSpec := { name := "bloomGrows", fn := fun _ => fun
  | [d1, d2] => { results := [.lit (.bool true)], args := [d1, d2] }
  | _ => none }
def bloomGrowsRow : OpenClaim := { program := "ytncdaadiadeeiaa", sum := "8c664ea4c199243dbf5aa4fc62a89d968efb02a9d2ef508d9b1ca3267b27194d", func := "buttery/butterylaw04.BloomGrows", spec := "bloomGrows", unfollowed := true, recurses := true, apart := false }
def BloomGrowsSaid : Prop := bloomGrowsRow.holds Try.pinned (OpenSpec.ofChange bloomGrowsSpec)

/-- ITS FALSE NEIGHBOUR: 'it returns false'. Refute it at one input. -/
def bloomGrowsWrong : ChangeSpec := { name := "bloomGrows", fn := fun _ => fun
  | [d1, d2] => { results := [.lit (.bool false)], args := [d1, d2] }
  | _ => none }
def BloomGrowsWrongFalsely : Prop := bloomGrowsRow.holds Try.pinned (OpenSpec.ofChange bloomGrowsWrong)

/-- 'butterylaw04.BloomKeeps': WHATEVER THE INPUT: true; the input reads as it did. -/
def bloomKeepsSpec : ChangeSpec := { name := "bloomKeeps", fn := fun _ => fun
  | [d1, d2, d3] => { results := [.lit (.bool true)], args := [d1, d2, d3] }
  | _ => none }
def bloomKeepsRow : OpenClaim := { program := "ytncdaadiadeeiaa", sum := "8c664ea4c199243dbf5aa4fc62a89d968efb02a9d2ef508d9b1ca3267b27194d", func := "buttery/butterylaw04.BloomKeeps", spec := "bloomKeeps", unfollowed := true, recurses := true, apart := false }
def BloomKeepsSaid : Prop := bloomKeepsRow.holds Try.pinned (OpenSpec.ofChange bloomKeepsSpec)

/-- ITS FALSE NEIGHBOUR: 'it returns false'. Refute it at one input. -/
def bloomKeepsWrong : ChangeSpec := { name := "bloomKeeps", fn := fun _ => fun
  | [d1, d2, d3] => { results := [.lit (.bool false)], args := [d1, d2, d3] }
  | _ => none }
def BloomKeepsWrongFalsely : Prop := bloomKeepsRow.holds Try.pinned (OpenSpec.ofChange bloomKeepsWrong)

/-- 'butterylaw04.BloomDoes': WHATEVER THE INPUT: true; the input reads as it did. -/
def bloomDoesSpec : ChangeSpec := { name := "bloomDoes", fn := fun _ => fun
  | [d1, d2] => { results := [.lit (.bool true)], args := [d1, d2] }
  | _ => none }
def bloomDoesRow : OpenClaim := { program := "ytncdaadiadeeiaa", sum := "8c664ea4c199243dbf5aa4fc62a89d968efb02a9d2ef508d9b1ca3267b27194d", func := "buttery/butterylaw04.BloomDoes", spec := "bloomDoes", unfollowed := true, recurses := true, apart := false }
def BloomDoesSaid : Prop := bloomDoesRow.holds Try.pinned (OpenSpec.ofChange bloomDoesSpec)

/-- ITS FALSE NEIGHBOUR: 'it returns false'. Refute it at one input. -/
def bloomDoesWrong : ChangeSpec := { name := "bloomDoes", fn := fun _ => fun
  | [d1, d2] => { results := [.lit (.bool false)], args := [d1, d2] }
  | _ => none }
def BloomDoesWrongFalsely : Prop := bloomDoesRow.holds Try.pinned (OpenSpec.ofChange bloomDoesWrong)

/-- 'butterylaw04.BloomApart': WHATEVER THE INPUT: true; the input reads as it did. -/
def bloomApartSpec : ChangeSpec := { name := "bloomApart", fn := fun _ => fun
  | [d1, d2, d3] => { results := [.lit (.bool true)], args := [d1, d2, d3] }
  | _ => none }
def bloomApartRow : OpenClaim := { program := "ytncdaadiadeeiaa", sum := "8c664ea4c199243dbf5aa4fc62a89d968efb02a9d2ef508d9b1ca3267b27194d", func := "buttery/butterylaw04.BloomApart", spec := "bloomApart", unfollowed := true, recurses := true, apart := false }
def BloomApartSaid : Prop := bloomApartRow.holds Try.pinned (OpenSpec.ofChange bloomApartSpec)

/-- ITS FALSE NEIGHBOUR: 'it returns false'. Refute it at one input. -/
def bloomApartWrong : ChangeSpec := { name := "bloomApart", fn := fun _ => fun
  | [d1, d2, d3] => { results := [.lit (.bool false)], args := [d1, d2, d3] }
  | _ => none }
def BloomApartWrongFalsely : Prop := bloomApartRow.holds Try.pinned (OpenSpec.ofChange bloomApartWrong)

/-- 'butterylaw06.TinyUsed': WHATEVER THE INPUT: true; the input reads as it did. -/
def tinyUsedSpec : ChangeSpec := { name := "tinyUsed", fn := fun _ => fun
  | [d1, d2, d3] => { results := [.lit (.bool true)], args := [d1, d2, d3] }
  | _ => none }
def tinyUsedRow : OpenClaim := { program := "ytncdaadiadeeiaa", sum := "8c664ea4c199243dbf5aa4fc62a89d968efb02a9d2ef508d9b1ca3267b27194d", func := "buttery/butterylaw06.TinyUsed", spec := "tinyUsed", unfollowed := true, recurses := true, apart := false }
def TinyUsedSaid : Prop := tinyUsedRow.holds Try.pinned (OpenSpec.ofChange tinyUsedSpec)

/-- ITS FALSE NEIGHBOUR: 'it returns false'. Refute it at one input. -/
def tinyUsedWrong : ChangeSpec := { name := "tinyUsed", fn := fun _ => fun
  | [d1, d2, d3] => { results := [.lit (.bool false)], args := [d1, d2, d3] }
  | _ => none }
def TinyUsedWrongFalsely : Prop := tinyUsedRow.holds Try.pinned (OpenSpec.ofChange tinyUsedWrong)

/-- 'butterylaw06.TinyCounts': WHATEVER THE INPUT: true; the input reads as it did. -/
def tinyCountsSpec : ChangeSpec := { name := "tinyCounts", fn := fun _ => fun
  | [d1, d2, d3] => { results := [.lit (.bool true)], args := [d1, d2, d3] }
  | _ => none }
def tinyCountsRow : OpenClaim := { program := "ytncdaadiadeeiaa", sum := "8c664ea4c199243dbf5aa4fc62a89d968efb02a9d2ef508d9b1ca3267b27194d", func := "buttery/butterylaw06.TinyCounts", spec := "tinyCounts", unfollowed := true, recurses := true, apart := false }
def TinyCountsSaid : Prop := tinyCountsRow.holds Try.pinned (OpenSpec.ofChange tinyCountsSpec)

/-- ITS FALSE NEIGHBOUR: 'it returns false'. Refute it at one input. -/
def tinyCountsWrong : ChangeSpec := { name := "tinyCounts", fn := fun _ => fun
  | [d1, d2, d3] => { results := [.lit (.bool false)], args := [d1, d2, d3] }
  | _ => none }
def TinyCountsWrongFalsely : Prop := tinyCountsRow.holds Try.pinned (OpenSpec.ofChange tinyCountsWrong)

/-- 'butterylaw06.TinyOrders': WHATEVER THE INPUT: true; the input reads as it did. -/
def tinyOrdersSpec : ChangeSpec := { name := "tinyOrders", fn := fun _ => fun
  | [d1, d2, d3, d4, d5] => { results := [.lit (.bool true)], args := [d1, d2, d3, d4, d5] }
  | _ => none }
def tinyOrdersRow : OpenClaim := { program := "ytncdaadiadeeiaa", sum := "8c664ea4c199243dbf5aa4fc62a89d968efb02a9d2ef508d9b1ca3267b27194d", func := "buttery/butterylaw06.TinyOrders", spec := "tinyOrders", unfollowed := true, recurses := true, apart := false }
def TinyOrdersSaid : Prop := tinyOrdersRow.holds Try.pinned (OpenSpec.ofChange tinyOrdersSpec)

/-- ITS FALSE NEIGHBOUR: 'it returns false'. Refute it at one input. -/
def tinyOrdersWrong : ChangeSpec := { name := "tinyOrders", fn := fun _ => fun
  | [d1, d2, d3, d4, d5] => { results := [.lit (.bool false)], args := [d1, d2, d3, d4, d5] }
  | _ => none }
def TinyOrdersWrongFalsely : Prop := tinyOrdersRow.holds Try.pinned (OpenSpec.ofChange tinyOrdersWrong)

/-- 'butterylaw06.TinyApart': WHATEVER THE INPUT: true; the input reads as it did. -/
def tinyApartSpec : ChangeSpec := { name := "tinyApart", fn := fun _ => fun
  | [d1, d2, d3] => { results := [.lit (.bool true)], args := [d1, d2, d3] }
  | _ => none }
def tinyApartRow : OpenClaim := { program := "ytncdaadiadeeiaa", sum := "8c664ea4c199243dbf5aa4fc62a89d968efb02a9d2ef508d9b1ca3267b27194d", func := "buttery/butterylaw06.TinyApart", spec := "tinyApart", unfollowed := true, recurses := true, apart := false }
def TinyApartSaid : Prop := tinyApartRow.holds Try.pinned (OpenSpec.ofChange tinyApartSpec)

/-- ITS FALSE NEIGHBOUR: 'it returns false'. Refute it at one input. -/
def tinyApartWrong : ChangeSpec := { name := "tinyApart", fn := fun _ => fun
  | [d1, d2, d3] => { results := [.lit (.bool false)], args := [d1, d2, d3] }
  | _ => none }
def TinyApartWrongFalsely : Prop := tinyApartRow.holds Try.pinned (OpenSpec.ofChange tinyApartWrong)

/-- 'butterylaw06.TinyDoes': WHATEVER THE INPUT: true; the input reads as it did. -/
def tinyDoesSpec : ChangeSpec := { name := "tinyDoes", fn := fun _ => fun
  | [d1, d2, d3] => { results := [.lit (.bool true)], args := [d1, d2, d3] }
  | _ => none }
def tinyDoesRow : OpenClaim := { program := "ytncdaadiadeeiaa", sum := "8c664ea4c199243dbf5aa4fc62a89d968efb02a9d2ef508d9b1ca3267b27194d", func := "buttery/butterylaw06.TinyDoes", spec := "tinyDoes", unfollowed := true, recurses := true, apart := false }
def TinyDoesSaid : Prop := tinyDoesRow.holds Try.pinned (OpenSpec.ofChange tinyDoesSpec)

/-- ITS FALSE NEIGHBOUR: 'it returns false'. Refute it at one input. -/
def tinyDoesWrong : ChangeSpec := { name := "tinyDoes", fn := fun _ => fun
  | [d1, d2, d3] => { results := [.lit (.bool false)], args := [d1, d2, d3] }
  | _ => none }
def TinyDoesWrongFalsely : Prop := tinyDoesRow.holds Try.pinned (OpenSpec.ofChange tinyDoesWrong)

/- THE SECOND FORM. 'bulk': how many values and letters a reading holds, each counted each time it is reached (what is shared counts as often as it is met; a slice's spare places count too). A statement '..UptoSaid' is the law's where the arguments, and the package variables that the reading takes, are together of bulk at most 1048576: NARROWER than '..Said'. Prove '..Said' where nothing that the law and all that it calls make is longer than what came in: it says more and counts as full. Else prove '..UptoSaid'. A law counts once. -/
mutual
def uptoBulk {H : Type} : DataW H → Nat
  | .lit (.string bytes) => bytes.length + 1
  | .lit _ => 1
  | .nil => 1
  | .ptr d => uptoBulk d + 1
  | .slice elems spare => uptoBulkAll elems + uptoBulkAll spare + 1
  | .agg parts => uptoBulkAll parts + 1
  | .iface _ d => uptoBulk d + 1
  | .map entries => uptoBulkEntries entries + 1
  | .held _ => 1
def uptoBulkAll {H : Type} : List (DataW H) → Nat
  | [] => 0
  | d :: r => uptoBulk d + uptoBulkAll r
def uptoBulkEntries {H : Type} : List (Lit × DataW H) → Nat
  | [] => 0
  | x :: r => uptoBulkEntry x + uptoBulkEntries r
def uptoBulkEntry {H : Type} : Lit × DataW H → Nat
  | (.string bytes, d) => bytes.length + uptoBulk d + 1
  | (_, d) => uptoBulk d + 1
 end
def uptoSmall : (H : Type) → List (DataW H) → Bool := fun _ ds => decide (uptoBulkAll ds ≤ 1048576)
def OpenSpec.upto (s : _root_.Go.ChangeSpec) : _root_.Go.OpenSpec := { _root_.Go.OpenSpec.ofChange s with cond := some uptoSmall }

/-- 'butterylaw05.SketchLeast', WHERE WHAT IT READS IS OF BULK AT MOST 1048576: true; the input reads as it did. -/
def sketchLeastUptoRow : OpenClaim := { program := "ytncdaadiadeeiaa", sum := "8c664ea4c199243dbf5aa4fc62a89d968efb02a9d2ef508d9b1ca3267b27194d", func := "buttery/butterylaw05.SketchLeast", spec := "sketchLeast", unfollowed := true, recurses := true, apart := false, narrowed := true }
def SketchLeastUptoSaid : Prop := sketchLeastUptoRow.holds Try.pinned (OpenSpec.upto sketchLeastSpec)

/-- 'butterylaw05.SketchHalves', WHERE WHAT IT READS IS OF BULK AT MOST 1048576: true; the input reads as it did. -/
def sketchHalvesUptoRow : OpenClaim := { program := "ytncdaadiadeeiaa", sum := "8c664ea4c199243dbf5aa4fc62a89d968efb02a9d2ef508d9b1ca3267b27194d", func := "buttery/butterylaw05.SketchHalves", spec := "sketchHalves", unfollowed := true, recurses := true, apart := false, narrowed := true }
def SketchHalvesUptoSaid : Prop := sketchHalvesUptoRow.holds Try.pinned (OpenSpec.upto sketchHalvesSpec)

/-- 'butterylaw05.SketchAll', WHERE WHAT IT READS IS OF BULK AT MOST 1048576: true; the input reads as it did. -/
def sketchAllUptoRow : OpenClaim := { program := "ytncdaadiadeeiaa", sum := "8c664ea4c199243dbf5aa4fc62a89d968efb02a9d2ef508d9b1ca3267b27194d", func := "buttery/butterylaw05.SketchAll", spec := "sketchAll", unfollowed := true, recurses := true, apart := false, narrowed := true }
def SketchAllUptoSaid : Prop := sketchAllUptoRow.holds Try.pinned (OpenSpec.upto sketchAllSpec)

/-- 'butterylaw05.SketchDoes', WHERE WHAT IT READS IS OF BULK AT MOST 1048576: true; the input reads as it did. -/
def sketchDoesUptoRow : OpenClaim := { program := "ytncdaadiadeeiaa", sum := "8c664ea4c199243dbf5aa4fc62a89d968efb02a9d2ef508d9b1ca3267b27194d", func := "buttery/butterylaw05.SketchDoes", spec := "sketchDoes", unfollowed := true, recurses := true, apart := false, narrowed := true }
def SketchDoesUptoSaid : Prop := sketchDoesUptoRow.holds Try.pinned (OpenSpec.upto sketchDoesSpec)

/-- 'butterylaw05.SketchApart', WHERE WHAT IT READS IS OF BULK AT MOST 1048576: true; the input reads as it did. -/
def sketchApartUptoRow : OpenClaim := { program := "ytncdaadiadeeiaa", sum := "8c664ea4c199243dbf5aa4fc62a89d968efb02a9d2ef508d9b1ca3267b27194d", func := "buttery/butterylaw05.SketchApart", spec := "sketchApart", unfollowed := true, recurses := true, apart := false, narrowed := true }
def SketchApartUptoSaid : Prop := sketchApartUptoRow.holds Try.pinned (OpenSpec.upto sketchApartSpec)

/-- 'butterylaw04.BloomOrder', WHERE WHAT IT READS IS OF BULK AT MOST 1048576: true; the input reads as it did. -/
def bloomOrderUptoRow : OpenClaim := { program := "ytncdaadiadeeiaa", sum := "8c664ea4c199243dbf5aa4fc62a89d968efb02a9d2ef508d9b1ca3267b27194d", func := "buttery/butterylaw04.BloomOrder", spec := "bloomOrder", unfollowed := true, recurses := true, apart := false, narrowed := true }
def BloomOrderUptoSaid : Prop := bloomOrderUptoRow.holds Try.pinned (OpenSpec.upto bloomOrderSpec)

/-- 'butterylaw04.BloomGrows', WHERE WHAT IT READS IS OF BULK AT MOST 1048576: true; the input reads as it did. -/
def bloomGrowsUptoRow : OpenClaim := { program := "ytncdaadiadeeiaa", sum := "8c664ea4c199243dbf5aa4fc62a89d968efb02a9d2ef508d9b1ca3267b27194d", func := "buttery/butterylaw04.BloomGrows", spec := "bloomGrows", unfollowed := true, recurses := true, apart := false, narrowed := true }
def BloomGrowsUptoSaid : Prop := bloomGrowsUptoRow.holds Try.pinned (OpenSpec.upto bloomGrowsSpec)

/-- 'butterylaw04.BloomKeeps', WHERE WHAT IT READS IS OF BULK AT MOST 1048576: true; the input reads as it did. -/
def bloomKeepsUptoRow : OpenClaim := { program := "ytncdaadiadeeiaa", sum := "8c664ea4c199243dbf5aa4fc62a89d968efb02a9d2ef508d9b1ca3267b27194d", func := "buttery/butterylaw04.BloomKeeps", spec := "bloomKeeps", unfollowed := true, recurses := true, apart := false, narrowed := true }
def BloomKeepsUptoSaid : Prop := bloomKeepsUptoRow.holds Try.pinned (OpenSpec.upto bloomKeepsSpec)

/-- 'butterylaw04.BloomDoes', WHERE WHAT IT READS IS OF BULK AT MOST 1048576: true; the input reads as it did. -/
def bloomDoesUptoRow : OpenClaim := { program := "ytncdaadiadeeiaa", sum := "8c664ea4c199243dbf5aa4fc62a89d968efb02a9d2ef508d9b1ca3267b27194d", func := "buttery/butterylaw04.BloomDoes", spec := "bloomDoes", unfollowed := true, recurses := true, apart := false, narrowed := true }
def BloomDoesUptoSaid : Prop := bloomDoesUptoRow.holds Try.pinned (OpenSpec.upto bloomDoesSpec)

/-- 'butterylaw04.BloomApart', WHERE WHAT IT READS IS OF BULK AT MOST 1048576: true; the input reads as it did. -/
def bloomApartUptoRow : OpenClaim := { program := "ytncdaadiadeeiaa", sum := "8c664ea4c199243dbf5aa4fc62a89d968efb02a9d2ef508d9b1ca3267b27194d", func := "buttery/butterylaw04.BloomApart", spec := "bloomApart", unfollowed := true, recurses := true, apart := false, narrowed := true }
def BloomApartUptoSaid : Prop := bloomApartUptoRow.holds Try.pinned (OpenSpec.upto bloomApartSpec)

/-- 'butterylaw06.TinyUsed', WHERE WHAT IT READS IS OF BULK AT MOST 1048576: true; the input reads as it did. -/
def tinyUsedUptoRow : OpenClaim := { program := "ytncdaadiadeeiaa", sum := "8c664ea4c199243dbf5aa4fc62a89d968efb02a9d2ef508d9b1ca3267b27194d", func := "buttery/butterylaw06.TinyUsed", spec := "tinyUsed", unfollowed := true, recurses := true, apart := false, narrowed := true }
def TinyUsedUptoSaid : Prop := tinyUsedUptoRow.holds Try.pinned (OpenSpec.upto tinyUsedSpec)

/-- 'butterylaw06.TinyCounts', WHERE WHAT IT READS IS OF BULK AT MOST 1048576: true; the input reads as it did. -/
def tinyCountsUptoRow : OpenClaim := { program := "ytncdaadiadeeiaa", sum := "8c664ea4c199243dbf5aa4fc62a89d968efb02a9d2ef508d9b1ca3267b27194d", func := "buttery/butterylaw06.TinyCounts", spec := "tinyCounts", unfollowed := true, recurses := true, apart := false, narrowed := true }
def TinyCountsUptoSaid : Prop := tinyCountsUptoRow.holds Try.pinned (OpenSpec.upto tinyCountsSpec)

/-- 'butterylaw06.TinyOrders', WHERE WHAT IT READS IS OF BULK AT MOST 1048576: true; the input reads as it did. -/
def tinyOrdersUptoRow : OpenClaim := { program := "ytncdaadiadeeiaa", sum := "8c664ea4c199243dbf5aa4fc62a89d968efb02a9d2ef508d9b1ca3267b27194d", func := "buttery/butterylaw06.TinyOrders", spec := "tinyOrders", unfollowed := true, recurses := true, apart := false, narrowed := true }
def TinyOrdersUptoSaid : Prop := tinyOrdersUptoRow.holds Try.pinned (OpenSpec.upto tinyOrdersSpec)

/-- 'butterylaw06.TinyApart', WHERE WHAT IT READS IS OF BULK AT MOST 1048576: true; the input reads as it did. -/
def tinyApartUptoRow : OpenClaim := { program := "ytncdaadiadeeiaa", sum := "8c664ea4c199243dbf5aa4fc62a89d968efb02a9d2ef508d9b1ca3267b27194d", func := "buttery/butterylaw06.TinyApart", spec := "tinyApart", unfollowed := true, recurses := true, apart := false, narrowed := true }
def TinyApartUptoSaid : Prop := tinyApartUptoRow.holds Try.pinned (OpenSpec.upto tinyApartSpec)

/-- 'butterylaw06.TinyDoes', WHERE WHAT IT READS IS OF BULK AT MOST 1048576: true; the input reads as it did. -/
def tinyDoesUptoRow : OpenClaim := { program := "ytncdaadiadeeiaa", sum := "8c664ea4c199243dbf5aa4fc62a89d968efb02a9d2ef508d9b1ca3267b27194d", func := "buttery/butterylaw06.TinyDoes", spec := "tinyDoes", unfollowed := true, recurses := true, apart := false, narrowed := true }
def TinyDoesUptoSaid : Prop := tinyDoesUptoRow.holds Try.pinned (OpenSpec.upto tinyDoesSpec)

end Rows
end Go.Proofs.Ytncdaadiadeeiaa
