/-
  DERIVED. GIVEN WITH THE SEED: THE CARDS: each row of YtpghckiochjogaaGreatDoorRows.lean that lists a variable, with what it lists TIED to the program's text (the seventh form; the later family's looks); each row that meets fmt, with fmt's text TOLD by the authors' own Lean function (tested against real Go, not proved from fmt's source: count such statements apart). THE CARD IS WHAT COUNTS. Prove the row's statement (the work); the ties are given (YtpghckiochjogaaGreatDoorTie.lean); close each card by the builder's one call (the guide's Derived/Test/ToyasCard.lean, 'card_holds'). Laid BY PROGRAM, IN A SANDBOX (cutbox-door.mjs). By AI agents, Wed Nov 11 2026. No macro, syntax, notation, axiom, sorry.
-/
import Derived.Test.YtpghckiochjogaaGreatDoorRows
import GoSem.ClaimSeven
namespace Go.Proofs.YtpghckiochjogaaGreatDoor
namespace Rows

/-- THE TIED CARD OF 'butterylaw21.RouteNumbers'. -/
def routeNumbersCard : Claim7 := { stood := { row := routeNumbersRow, standIns := [], harness := (true, "2572dc1a651deaaa376de6440d4571ab4d933f5cd712398ba491aa00889d4566"), looks := true }, kinds := [], alts := [], laidByText := true, laidKinds := [.data, .data, .data, .sentinel, .sentinel], laidTests := true, laidLooks := .later }
def RouteNumbersCardSaid : Prop := Claim7.holds Tryz.pinned (.plain (OpenSpec.ofChange routeNumbersSpec)) routeNumbersCard

/-- THE TIED CARD OF 'butterylaw21.RouteFlushes'. -/
def routeFlushesCard : Claim7 := { stood := { row := routeFlushesRow, standIns := [], harness := (true, "2572dc1a651deaaa376de6440d4571ab4d933f5cd712398ba491aa00889d4566"), looks := true }, kinds := [], alts := [], laidByText := true, laidKinds := [.data, .data, .data, .sentinel, .sentinel], laidTests := true, laidLooks := .later }
def RouteFlushesCardSaid : Prop := Claim7.holds Tryz.pinned (.plain (OpenSpec.ofChange routeFlushesSpec)) routeFlushesCard

/-- THE TIED CARD OF 'butterylaw21.RoutePlaces'. -/
def routePlacesCard : Claim7 := { stood := { row := routePlacesRow, standIns := [], harness := (true, "2572dc1a651deaaa376de6440d4571ab4d933f5cd712398ba491aa00889d4566"), looks := true }, kinds := [], alts := [], laidByText := true, laidKinds := [.data, .data, .data, .sentinel, .sentinel], laidTests := true, laidLooks := .later }
def RoutePlacesCardSaid : Prop := Claim7.holds Tryz.pinned (.plain (OpenSpec.ofChange routePlacesSpec)) routePlacesCard

/-- THE TIED CARD OF 'butterylaw21.RouteApart'. -/
def routeApartCard : Claim7 := { stood := { row := routeApartRow, standIns := [], harness := (true, "2572dc1a651deaaa376de6440d4571ab4d933f5cd712398ba491aa00889d4566"), looks := true }, kinds := [], alts := [], laidByText := true, laidKinds := [.data, .data, .data, .sentinel, .sentinel], laidTests := true, laidLooks := .later }
def RouteApartCardSaid : Prop := Claim7.holds Tryz.pinned (.plain (OpenSpec.ofChange routeApartSpec)) routeApartCard

/-- THE TIED CARD OF 'butterylaw21.RouteOne'. -/
def routeOneCard : Claim7 := { stood := { row := routeOneRow, standIns := [], harness := (true, "2572dc1a651deaaa376de6440d4571ab4d933f5cd712398ba491aa00889d4566"), looks := true }, kinds := [], alts := [], laidByText := true, laidKinds := [.data, .data, .data, .sentinel, .sentinel], laidTests := true, laidLooks := .later }
def RouteOneCardSaid : Prop := Claim7.holds Tryz.pinned (.plain (OpenSpec.ofChange routeOneSpec)) routeOneCard

/-- THE SECOND FORM's CARD OF 'butterylaw21.RouteNumbers'. -/
def routeNumbersUptoCard : Claim7 := { stood := { row := routeNumbersUptoRow, standIns := [], harness := (true, "2572dc1a651deaaa376de6440d4571ab4d933f5cd712398ba491aa00889d4566"), looks := true }, kinds := [], alts := [], laidByText := true, laidKinds := [.data, .data, .data, .sentinel, .sentinel], laidTests := true, laidLooks := .later }
def RouteNumbersUptoCardSaid : Prop := Claim7.holds Tryz.pinned (.plain (OpenSpec.upto routeNumbersSpec)) routeNumbersUptoCard

/-- THE SECOND FORM's CARD OF 'butterylaw21.RouteFlushes'. -/
def routeFlushesUptoCard : Claim7 := { stood := { row := routeFlushesUptoRow, standIns := [], harness := (true, "2572dc1a651deaaa376de6440d4571ab4d933f5cd712398ba491aa00889d4566"), looks := true }, kinds := [], alts := [], laidByText := true, laidKinds := [.data, .data, .data, .sentinel, .sentinel], laidTests := true, laidLooks := .later }
def RouteFlushesUptoCardSaid : Prop := Claim7.holds Tryz.pinned (.plain (OpenSpec.upto routeFlushesSpec)) routeFlushesUptoCard

/-- THE SECOND FORM's CARD OF 'butterylaw21.RoutePlaces'. -/
def routePlacesUptoCard : Claim7 := { stood := { row := routePlacesUptoRow, standIns := [], harness := (true, "2572dc1a651deaaa376de6440d4571ab4d933f5cd712398ba491aa00889d4566"), looks := true }, kinds := [], alts := [], laidByText := true, laidKinds := [.data, .data, .data, .sentinel, .sentinel], laidTests := true, laidLooks := .later }
def RoutePlacesUptoCardSaid : Prop := Claim7.holds Tryz.pinned (.plain (OpenSpec.upto routePlacesSpec)) routePlacesUptoCard

/-- THE SECOND FORM's CARD OF 'butterylaw21.RouteApart'. -/
def routeApartUptoCard : Claim7 := { stood := { row := routeApartUptoRow, standIns := [], harness := (true, "2572dc1a651deaaa376de6440d4571ab4d933f5cd712398ba491aa00889d4566"), looks := true }, kinds := [], alts := [], laidByText := true, laidKinds := [.data, .data, .data, .sentinel, .sentinel], laidTests := true, laidLooks := .later }
def RouteApartUptoCardSaid : Prop := Claim7.holds Tryz.pinned (.plain (OpenSpec.upto routeApartSpec)) routeApartUptoCard

/-- THE SECOND FORM's CARD OF 'butterylaw21.RouteOne'. -/
def routeOneUptoCard : Claim7 := { stood := { row := routeOneUptoRow, standIns := [], harness := (true, "2572dc1a651deaaa376de6440d4571ab4d933f5cd712398ba491aa00889d4566"), looks := true }, kinds := [], alts := [], laidByText := true, laidKinds := [.data, .data, .data, .sentinel, .sentinel], laidTests := true, laidLooks := .later }
def RouteOneUptoCardSaid : Prop := Claim7.holds Tryz.pinned (.plain (OpenSpec.upto routeOneSpec)) routeOneUptoCard
end Rows
end Go.Proofs.YtpghckiochjogaaGreatDoor
