/-
  DERIVED. GIVEN WITH THE SEED: THE CARDS: each row of YtfinjenkgpndlaaGreatDoorRows.lean that lists a variable, with what it lists TIED to the program's text (the seventh form; the later family's looks); each row that meets fmt, with fmt's text TOLD by the authors' own Lean function (tested against real Go, not proved from fmt's source: count such statements apart). THE CARD IS WHAT COUNTS. Prove the row's statement (the work); the ties are given (YtfinjenkgpndlaaGreatDoorTie.lean); close each card by the builder's one call (the guide's Derived/Test/ToyasCard.lean, 'card_holds'). Laid BY PROGRAM, IN A SANDBOX (cutbox-door.mjs). By AI agents, Wed Nov 11 2026. No macro, syntax, notation, axiom, sorry.
-/
import Derived.Test.YtfinjenkgpndlaaGreatDoorRows
import GoSem.ClaimSeven
namespace Go.Proofs.YtfinjenkgpndlaaGreatDoor
namespace Rows

/-- THE TIED CARD OF 'hornbooklaw13.PlacesCount'. -/
def placesCountCard : Claim7 := { stood := { row := placesCountRow, standIns := [], harness := (true, "d0643b50c6f70ee4067ea65590d0e76d88c43e67e3139f8b89f1bea3e54ebcbf"), looks := true }, kinds := [], alts := [], laidByText := true, laidKinds := [.data, .data, .data, .data, .sentinel, .sentinel, .pinned], laidTests := true, laidLooks := .later }
def PlacesCountCardSaid : Prop := Claim7.holds Tryz.pinned (.plain (OpenSpec.ofChange placesCountSpec)) placesCountCard

/-- THE TIED CARD OF 'hornbooklaw13.PlacesStars'. -/
def placesStarsCard : Claim7 := { stood := { row := placesStarsRow, standIns := [], harness := (true, "d0643b50c6f70ee4067ea65590d0e76d88c43e67e3139f8b89f1bea3e54ebcbf"), looks := true }, kinds := [], alts := [], laidByText := true, laidKinds := [.data, .data, .data, .data, .sentinel, .sentinel, .pinned], laidTests := true, laidLooks := .later }
def PlacesStarsCardSaid : Prop := Claim7.holds Tryz.pinned (.plain (OpenSpec.ofChange placesStarsSpec)) placesStarsCard

/-- THE TIED CARD OF 'hornbooklaw13.PlacesJoin'. -/
def placesJoinCard : Claim7 := { stood := { row := placesJoinRow, standIns := [], harness := (true, "d0643b50c6f70ee4067ea65590d0e76d88c43e67e3139f8b89f1bea3e54ebcbf"), looks := true }, kinds := [], alts := [], laidByText := true, laidKinds := [.data, .data, .data, .data, .sentinel, .sentinel, .pinned], laidTests := true, laidLooks := .later }
def PlacesJoinCardSaid : Prop := Claim7.holds Tryz.pinned (.plain (OpenSpec.ofChange placesJoinSpec)) placesJoinCard

/-- THE TIED CARD OF 'hornbooklaw8.MatchParts'. -/
def matchPartsCard : Claim7 := { stood := { row := matchPartsRow, standIns := [], harness := (true, "d0643b50c6f70ee4067ea65590d0e76d88c43e67e3139f8b89f1bea3e54ebcbf"), looks := true }, kinds := [], alts := [], laidByText := true, laidKinds := [.data, .data, .data, .data, .sentinel, .sentinel, .pinned], laidTests := true, laidLooks := .later }
def MatchPartsCardSaid : Prop := Claim7.holds Tryz.pinned (.plain (OpenSpec.ofChange matchPartsSpec)) matchPartsCard

/-- THE TIED CARD OF 'hornbooklaw8.MatchPlaces'. -/
def matchPlacesCard : Claim7 := { stood := { row := matchPlacesRow, standIns := [], harness := (true, "d0643b50c6f70ee4067ea65590d0e76d88c43e67e3139f8b89f1bea3e54ebcbf"), looks := true }, kinds := [], alts := [], laidByText := true, laidKinds := [.data, .data, .data, .data, .sentinel, .sentinel, .pinned], laidTests := true, laidLooks := .later }
def MatchPlacesCardSaid : Prop := Claim7.holds Tryz.pinned (.plain (OpenSpec.ofChange matchPlacesSpec)) matchPlacesCard

/-- THE TIED CARD OF 'hornbooklaw8.MatchLaws'. -/
def matchLawsCard : Claim7 := { stood := { row := matchLawsRow, standIns := [], harness := (true, "d0643b50c6f70ee4067ea65590d0e76d88c43e67e3139f8b89f1bea3e54ebcbf"), looks := true }, kinds := [], alts := [], laidByText := true, laidKinds := [.data, .data, .data, .data, .sentinel, .sentinel, .pinned], laidTests := true, laidLooks := .later }
def MatchLawsCardSaid : Prop := Claim7.holds Tryz.pinned (.plain (OpenSpec.ofChange matchLawsSpec)) matchLawsCard

/-- THE TIED CARD OF 'hornbooklaw8.MatchWord'. -/
def matchWordCard : Claim7 := { stood := { row := matchWordRow, standIns := [], harness := (true, "d0643b50c6f70ee4067ea65590d0e76d88c43e67e3139f8b89f1bea3e54ebcbf"), looks := true }, kinds := [], alts := [], laidByText := true, laidKinds := [.data, .data, .data, .data, .sentinel, .sentinel, .pinned], laidTests := true, laidLooks := .later }
def MatchWordCardSaid : Prop := Claim7.holds Tryz.pinned (.plain (OpenSpec.ofChange matchWordSpec)) matchWordCard

/-- THE TIED CARD OF 'hornbooklaw8.MatchCounts'. -/
def matchCountsCard : Claim7 := { stood := { row := matchCountsRow, standIns := [], harness := (true, "d0643b50c6f70ee4067ea65590d0e76d88c43e67e3139f8b89f1bea3e54ebcbf"), looks := true }, kinds := [], alts := [], laidByText := true, laidKinds := [.data, .data, .data, .data, .sentinel, .sentinel, .pinned], laidTests := true, laidLooks := .later }
def MatchCountsCardSaid : Prop := Claim7.holds Tryz.pinned (.plain (OpenSpec.ofChange matchCountsSpec)) matchCountsCard

/-- THE TIED CARD OF 'hornbooklaw13.PlacesTell'. -/
def placesTellCard : Claim7 := { stood := { row := placesTellRow, standIns := [], harness := (true, "d0643b50c6f70ee4067ea65590d0e76d88c43e67e3139f8b89f1bea3e54ebcbf"), looks := true }, kinds := [], alts := [], laidByText := true, laidKinds := [.data, .data, .data, .data, .sentinel, .sentinel, .pinned], laidTests := true, laidLooks := .later }
def PlacesTellCardSaid : Prop := Claim7.holds Tryz.pinned (.plain (OpenSpec.ofChange placesTellSpec)) placesTellCard

/-- THE SECOND FORM's CARD OF 'hornbooklaw13.PlacesCount'. -/
def placesCountUptoCard : Claim7 := { stood := { row := placesCountUptoRow, standIns := [], harness := (true, "d0643b50c6f70ee4067ea65590d0e76d88c43e67e3139f8b89f1bea3e54ebcbf"), looks := true }, kinds := [], alts := [], laidByText := true, laidKinds := [.data, .data, .data, .data, .sentinel, .sentinel, .pinned], laidTests := true, laidLooks := .later }
def PlacesCountUptoCardSaid : Prop := Claim7.holds Tryz.pinned (.plain (OpenSpec.upto placesCountSpec)) placesCountUptoCard

/-- THE SECOND FORM's CARD OF 'hornbooklaw13.PlacesStars'. -/
def placesStarsUptoCard : Claim7 := { stood := { row := placesStarsUptoRow, standIns := [], harness := (true, "d0643b50c6f70ee4067ea65590d0e76d88c43e67e3139f8b89f1bea3e54ebcbf"), looks := true }, kinds := [], alts := [], laidByText := true, laidKinds := [.data, .data, .data, .data, .sentinel, .sentinel, .pinned], laidTests := true, laidLooks := .later }
def PlacesStarsUptoCardSaid : Prop := Claim7.holds Tryz.pinned (.plain (OpenSpec.upto placesStarsSpec)) placesStarsUptoCard

/-- THE SECOND FORM's CARD OF 'hornbooklaw13.PlacesJoin'. -/
def placesJoinUptoCard : Claim7 := { stood := { row := placesJoinUptoRow, standIns := [], harness := (true, "d0643b50c6f70ee4067ea65590d0e76d88c43e67e3139f8b89f1bea3e54ebcbf"), looks := true }, kinds := [], alts := [], laidByText := true, laidKinds := [.data, .data, .data, .data, .sentinel, .sentinel, .pinned], laidTests := true, laidLooks := .later }
def PlacesJoinUptoCardSaid : Prop := Claim7.holds Tryz.pinned (.plain (OpenSpec.upto placesJoinSpec)) placesJoinUptoCard

/-- THE SECOND FORM's CARD OF 'hornbooklaw8.MatchParts'. -/
def matchPartsUptoCard : Claim7 := { stood := { row := matchPartsUptoRow, standIns := [], harness := (true, "d0643b50c6f70ee4067ea65590d0e76d88c43e67e3139f8b89f1bea3e54ebcbf"), looks := true }, kinds := [], alts := [], laidByText := true, laidKinds := [.data, .data, .data, .data, .sentinel, .sentinel, .pinned], laidTests := true, laidLooks := .later }
def MatchPartsUptoCardSaid : Prop := Claim7.holds Tryz.pinned (.plain (OpenSpec.upto matchPartsSpec)) matchPartsUptoCard

/-- THE SECOND FORM's CARD OF 'hornbooklaw8.MatchPlaces'. -/
def matchPlacesUptoCard : Claim7 := { stood := { row := matchPlacesUptoRow, standIns := [], harness := (true, "d0643b50c6f70ee4067ea65590d0e76d88c43e67e3139f8b89f1bea3e54ebcbf"), looks := true }, kinds := [], alts := [], laidByText := true, laidKinds := [.data, .data, .data, .data, .sentinel, .sentinel, .pinned], laidTests := true, laidLooks := .later }
def MatchPlacesUptoCardSaid : Prop := Claim7.holds Tryz.pinned (.plain (OpenSpec.upto matchPlacesSpec)) matchPlacesUptoCard

/-- THE SECOND FORM's CARD OF 'hornbooklaw8.MatchLaws'. -/
def matchLawsUptoCard : Claim7 := { stood := { row := matchLawsUptoRow, standIns := [], harness := (true, "d0643b50c6f70ee4067ea65590d0e76d88c43e67e3139f8b89f1bea3e54ebcbf"), looks := true }, kinds := [], alts := [], laidByText := true, laidKinds := [.data, .data, .data, .data, .sentinel, .sentinel, .pinned], laidTests := true, laidLooks := .later }
def MatchLawsUptoCardSaid : Prop := Claim7.holds Tryz.pinned (.plain (OpenSpec.upto matchLawsSpec)) matchLawsUptoCard

/-- THE SECOND FORM's CARD OF 'hornbooklaw8.MatchWord'. -/
def matchWordUptoCard : Claim7 := { stood := { row := matchWordUptoRow, standIns := [], harness := (true, "d0643b50c6f70ee4067ea65590d0e76d88c43e67e3139f8b89f1bea3e54ebcbf"), looks := true }, kinds := [], alts := [], laidByText := true, laidKinds := [.data, .data, .data, .data, .sentinel, .sentinel, .pinned], laidTests := true, laidLooks := .later }
def MatchWordUptoCardSaid : Prop := Claim7.holds Tryz.pinned (.plain (OpenSpec.upto matchWordSpec)) matchWordUptoCard

/-- THE SECOND FORM's CARD OF 'hornbooklaw8.MatchCounts'. -/
def matchCountsUptoCard : Claim7 := { stood := { row := matchCountsUptoRow, standIns := [], harness := (true, "d0643b50c6f70ee4067ea65590d0e76d88c43e67e3139f8b89f1bea3e54ebcbf"), looks := true }, kinds := [], alts := [], laidByText := true, laidKinds := [.data, .data, .data, .data, .sentinel, .sentinel, .pinned], laidTests := true, laidLooks := .later }
def MatchCountsUptoCardSaid : Prop := Claim7.holds Tryz.pinned (.plain (OpenSpec.upto matchCountsSpec)) matchCountsUptoCard

/-- THE SECOND FORM's CARD OF 'hornbooklaw13.PlacesTell'. -/
def placesTellUptoCard : Claim7 := { stood := { row := placesTellUptoRow, standIns := [], harness := (true, "d0643b50c6f70ee4067ea65590d0e76d88c43e67e3139f8b89f1bea3e54ebcbf"), looks := true }, kinds := [], alts := [], laidByText := true, laidKinds := [.data, .data, .data, .data, .sentinel, .sentinel, .pinned], laidTests := true, laidLooks := .later }
def PlacesTellUptoCardSaid : Prop := Claim7.holds Tryz.pinned (.plain (OpenSpec.upto placesTellSpec)) placesTellUptoCard
end Rows
end Go.Proofs.YtfinjenkgpndlaaGreatDoor
