/-
  DERIVED. GIVEN WITH THE SEED: THE CARDS: each row of YtodoglljjhdbeaaGreatDoorRows.lean that lists a variable, with what it lists TIED to the program's text (the seventh form; the later family's looks); each row that meets fmt, with fmt's text TOLD by the authors' own Lean function (tested against real Go, not proved from fmt's source: count such statements apart). THE CARD IS WHAT COUNTS. Prove the row's statement (the work); the ties are given (YtodoglljjhdbeaaGreatDoorTie.lean); close each card by the builder's one call (the guide's Derived/Test/ToyasCard.lean, 'card_holds'). Laid BY PROGRAM, IN A SANDBOX (cutbox-door.mjs). By AI agents, Wed Nov 11 2026. No macro, syntax, notation, axiom, sorry.
-/
import Derived.Test.YtodoglljjhdbeaaGreatDoorRows
import GoSem.ClaimSeven
namespace Go.Proofs.YtodoglljjhdbeaaGreatDoor
namespace Rows

/-- THE TIED CARD OF 'butterylaw12.ExecTells'. -/
def execTellsCard : Claim7 := { stood := { row := execTellsRow, standIns := [], harness := (true, "a75c2599b4f777478d78c9a248fd8a634a7371e52211ccf172d2407a79ecf8fc"), looks := true }, kinds := [], alts := [], laidByText := true, laidKinds := [.data, .data, .data, .sentinel, .sentinel], laidTests := true, laidLooks := .later }
def ExecTellsCardSaid : Prop := Claim7.holds Tryz.pinned (.plain (OpenSpec.ofChange execTellsSpec)) execTellsCard

/-- THE TIED CARD OF 'butterylaw12.ExecAsks'. -/
def execAsksCard : Claim7 := { stood := { row := execAsksRow, standIns := [], harness := (true, "a75c2599b4f777478d78c9a248fd8a634a7371e52211ccf172d2407a79ecf8fc"), looks := true }, kinds := [], alts := [], laidByText := true, laidKinds := [.data, .data, .data, .sentinel, .sentinel], laidTests := true, laidLooks := .later }
def ExecAsksCardSaid : Prop := Claim7.holds Tryz.pinned (.plain (OpenSpec.ofChange execAsksSpec)) execAsksCard

/-- THE TIED CARD OF 'butterylaw12.ExecWins'. -/
def execWinsCard : Claim7 := { stood := { row := execWinsRow, standIns := [], harness := (true, "a75c2599b4f777478d78c9a248fd8a634a7371e52211ccf172d2407a79ecf8fc"), looks := true }, kinds := [], alts := [], laidByText := true, laidKinds := [.data, .data, .data, .sentinel, .sentinel], laidTests := true, laidLooks := .later }
def ExecWinsCardSaid : Prop := Claim7.holds Tryz.pinned (.plain (OpenSpec.ofChange execWinsSpec)) execWinsCard

/-- THE TIED CARD OF 'butterylaw12.ExecAdds'. -/
def execAddsCard : Claim7 := { stood := { row := execAddsRow, standIns := [], harness := (true, "a75c2599b4f777478d78c9a248fd8a634a7371e52211ccf172d2407a79ecf8fc"), looks := true }, kinds := [], alts := [], laidByText := true, laidKinds := [.data, .data, .data, .sentinel, .sentinel], laidTests := true, laidLooks := .later }
def ExecAddsCardSaid : Prop := Claim7.holds Tryz.pinned (.plain (OpenSpec.ofChange execAddsSpec)) execAddsCard

/-- THE TIED CARD OF 'butterylaw12.ExecJoins'. -/
def execJoinsCard : Claim7 := { stood := { row := execJoinsRow, standIns := [], harness := (true, "a75c2599b4f777478d78c9a248fd8a634a7371e52211ccf172d2407a79ecf8fc"), looks := true }, kinds := [], alts := [], laidByText := true, laidKinds := [.data, .data, .data, .sentinel, .sentinel], laidTests := true, laidLooks := .later }
def ExecJoinsCardSaid : Prop := Claim7.holds Tryz.pinned (.plain (OpenSpec.ofChange execJoinsSpec)) execJoinsCard

/-- THE TIED CARD OF 'butterylaw12.ExecDeletes'. -/
def execDeletesCard : Claim7 := { stood := { row := execDeletesRow, standIns := [], harness := (true, "a75c2599b4f777478d78c9a248fd8a634a7371e52211ccf172d2407a79ecf8fc"), looks := true }, kinds := [], alts := [], laidByText := true, laidKinds := [.data, .data, .data, .sentinel, .sentinel], laidTests := true, laidLooks := .later }
def ExecDeletesCardSaid : Prop := Claim7.holds Tryz.pinned (.plain (OpenSpec.ofChange execDeletesSpec)) execDeletesCard

/-- THE TIED CARD OF 'butterylaw12.ExecSwaps'. -/
def execSwapsCard : Claim7 := { stood := { row := execSwapsRow, standIns := [], harness := (true, "a75c2599b4f777478d78c9a248fd8a634a7371e52211ccf172d2407a79ecf8fc"), looks := true }, kinds := [], alts := [], laidByText := true, laidKinds := [.data, .data, .data, .sentinel, .sentinel], laidTests := true, laidLooks := .later }
def ExecSwapsCardSaid : Prop := Claim7.holds Tryz.pinned (.plain (OpenSpec.ofChange execSwapsSpec)) execSwapsCard

/-- THE TIED CARD OF 'butterylaw12.ExecTouches'. -/
def execTouchesCard : Claim7 := { stood := { row := execTouchesRow, standIns := [], harness := (true, "a75c2599b4f777478d78c9a248fd8a634a7371e52211ccf172d2407a79ecf8fc"), looks := true }, kinds := [], alts := [], laidByText := true, laidKinds := [.data, .data, .data, .sentinel, .sentinel], laidTests := true, laidLooks := .later }
def ExecTouchesCardSaid : Prop := Claim7.holds Tryz.pinned (.plain (OpenSpec.ofChange execTouchesSpec)) execTouchesCard

/-- THE SECOND FORM's CARD OF 'butterylaw12.ExecTells'. -/
def execTellsUptoCard : Claim7 := { stood := { row := execTellsUptoRow, standIns := [], harness := (true, "a75c2599b4f777478d78c9a248fd8a634a7371e52211ccf172d2407a79ecf8fc"), looks := true }, kinds := [], alts := [], laidByText := true, laidKinds := [.data, .data, .data, .sentinel, .sentinel], laidTests := true, laidLooks := .later }
def ExecTellsUptoCardSaid : Prop := Claim7.holds Tryz.pinned (.plain (OpenSpec.upto execTellsSpec)) execTellsUptoCard

/-- THE SECOND FORM's CARD OF 'butterylaw12.ExecAsks'. -/
def execAsksUptoCard : Claim7 := { stood := { row := execAsksUptoRow, standIns := [], harness := (true, "a75c2599b4f777478d78c9a248fd8a634a7371e52211ccf172d2407a79ecf8fc"), looks := true }, kinds := [], alts := [], laidByText := true, laidKinds := [.data, .data, .data, .sentinel, .sentinel], laidTests := true, laidLooks := .later }
def ExecAsksUptoCardSaid : Prop := Claim7.holds Tryz.pinned (.plain (OpenSpec.upto execAsksSpec)) execAsksUptoCard

/-- THE SECOND FORM's CARD OF 'butterylaw12.ExecWins'. -/
def execWinsUptoCard : Claim7 := { stood := { row := execWinsUptoRow, standIns := [], harness := (true, "a75c2599b4f777478d78c9a248fd8a634a7371e52211ccf172d2407a79ecf8fc"), looks := true }, kinds := [], alts := [], laidByText := true, laidKinds := [.data, .data, .data, .sentinel, .sentinel], laidTests := true, laidLooks := .later }
def ExecWinsUptoCardSaid : Prop := Claim7.holds Tryz.pinned (.plain (OpenSpec.upto execWinsSpec)) execWinsUptoCard

/-- THE SECOND FORM's CARD OF 'butterylaw12.ExecAdds'. -/
def execAddsUptoCard : Claim7 := { stood := { row := execAddsUptoRow, standIns := [], harness := (true, "a75c2599b4f777478d78c9a248fd8a634a7371e52211ccf172d2407a79ecf8fc"), looks := true }, kinds := [], alts := [], laidByText := true, laidKinds := [.data, .data, .data, .sentinel, .sentinel], laidTests := true, laidLooks := .later }
def ExecAddsUptoCardSaid : Prop := Claim7.holds Tryz.pinned (.plain (OpenSpec.upto execAddsSpec)) execAddsUptoCard

/-- THE SECOND FORM's CARD OF 'butterylaw12.ExecJoins'. -/
def execJoinsUptoCard : Claim7 := { stood := { row := execJoinsUptoRow, standIns := [], harness := (true, "a75c2599b4f777478d78c9a248fd8a634a7371e52211ccf172d2407a79ecf8fc"), looks := true }, kinds := [], alts := [], laidByText := true, laidKinds := [.data, .data, .data, .sentinel, .sentinel], laidTests := true, laidLooks := .later }
def ExecJoinsUptoCardSaid : Prop := Claim7.holds Tryz.pinned (.plain (OpenSpec.upto execJoinsSpec)) execJoinsUptoCard

/-- THE SECOND FORM's CARD OF 'butterylaw12.ExecDeletes'. -/
def execDeletesUptoCard : Claim7 := { stood := { row := execDeletesUptoRow, standIns := [], harness := (true, "a75c2599b4f777478d78c9a248fd8a634a7371e52211ccf172d2407a79ecf8fc"), looks := true }, kinds := [], alts := [], laidByText := true, laidKinds := [.data, .data, .data, .sentinel, .sentinel], laidTests := true, laidLooks := .later }
def ExecDeletesUptoCardSaid : Prop := Claim7.holds Tryz.pinned (.plain (OpenSpec.upto execDeletesSpec)) execDeletesUptoCard

/-- THE SECOND FORM's CARD OF 'butterylaw12.ExecSwaps'. -/
def execSwapsUptoCard : Claim7 := { stood := { row := execSwapsUptoRow, standIns := [], harness := (true, "a75c2599b4f777478d78c9a248fd8a634a7371e52211ccf172d2407a79ecf8fc"), looks := true }, kinds := [], alts := [], laidByText := true, laidKinds := [.data, .data, .data, .sentinel, .sentinel], laidTests := true, laidLooks := .later }
def ExecSwapsUptoCardSaid : Prop := Claim7.holds Tryz.pinned (.plain (OpenSpec.upto execSwapsSpec)) execSwapsUptoCard

/-- THE SECOND FORM's CARD OF 'butterylaw12.ExecTouches'. -/
def execTouchesUptoCard : Claim7 := { stood := { row := execTouchesUptoRow, standIns := [], harness := (true, "a75c2599b4f777478d78c9a248fd8a634a7371e52211ccf172d2407a79ecf8fc"), looks := true }, kinds := [], alts := [], laidByText := true, laidKinds := [.data, .data, .data, .sentinel, .sentinel], laidTests := true, laidLooks := .later }
def ExecTouchesUptoCardSaid : Prop := Claim7.holds Tryz.pinned (.plain (OpenSpec.upto execTouchesSpec)) execTouchesUptoCard
end Rows
end Go.Proofs.YtodoglljjhdbeaaGreatDoor
