/-
  DERIVED. GIVEN WITH THE SEED: THE CARDS: each row of YtinebfdbacaahaaGreatDoorRows.lean that lists a variable, with what it lists TIED to the program's text (the seventh form; the later family's looks); each row that meets fmt, with fmt's text TOLD by the authors' own Lean function (tested against real Go, not proved from fmt's source: count such statements apart). THE CARD IS WHAT COUNTS. Prove the row's statement (the work); the ties are given (YtinebfdbacaahaaGreatDoorTie.lean); close each card by the builder's one call (the guide's Derived/Test/ToyasCard.lean, 'card_holds'). Laid BY PROGRAM, IN A SANDBOX (cutbox-door.mjs). By AI agents, Wed Nov 11 2026. No macro, syntax, notation, axiom, sorry.
-/
import Derived.Test.YtinebfdbacaahaaGreatDoorRows
import GoSem.ClaimSeven
namespace Go.Proofs.YtinebfdbacaahaaGreatDoor
namespace Rows

/-- THE TIED CARD OF 'vergerlaw07.FilterEvals'. -/
def filterEvalsCard : Claim7 := { stood := { row := filterEvalsRow, standIns := [], harness := (true, "0fe6ed68e01840696d9c52abeabfd505907d961b2af6591dc10825a1aa288d59"), looks := true }, kinds := [], alts := [], laidByText := true, laidKinds := [.data, .data, .data, .data, .sentinel, .sentinel, .pinned], laidTests := true, laidLooks := .later }
def FilterEvalsCardSaid : Prop := Claim7.holds Tryz.pinned (.plain (OpenSpec.ofChange filterEvalsSpec)) filterEvalsCard

/-- THE TIED CARD OF 'vergerlaw07.FilterPieces'. -/
def filterPiecesCard : Claim7 := { stood := { row := filterPiecesRow, standIns := [], harness := (true, "0fe6ed68e01840696d9c52abeabfd505907d961b2af6591dc10825a1aa288d59"), looks := true }, kinds := [], alts := [], laidByText := true, laidKinds := [.data, .data, .data, .data, .sentinel, .sentinel, .pinned], laidTests := true, laidLooks := .later }
def FilterPiecesCardSaid : Prop := Claim7.holds Tryz.pinned (.plain (OpenSpec.ofChange filterPiecesSpec)) filterPiecesCard

/-- THE TIED CARD OF 'vergerlaw07.FilterPrints'. -/
def filterPrintsCard : Claim7 := { stood := { row := filterPrintsRow, standIns := [], harness := (true, "0fe6ed68e01840696d9c52abeabfd505907d961b2af6591dc10825a1aa288d59"), looks := true }, kinds := [], alts := [], laidByText := true, laidKinds := [.data, .data, .data, .data, .sentinel, .sentinel, .pinned], laidTests := true, laidLooks := .later }
def FilterPrintsCardSaid : Prop := Claim7.holds Tryz.pinned (.plain (OpenSpec.ofChange filterPrintsSpec)) filterPrintsCard

/-- THE TIED CARD OF 'vergerlaw07.FilterBack'. -/
def filterBackCard : Claim7 := { stood := { row := filterBackRow, standIns := [], harness := (true, "0fe6ed68e01840696d9c52abeabfd505907d961b2af6591dc10825a1aa288d59"), looks := true }, kinds := [], alts := [], laidByText := true, laidKinds := [.data, .data, .data, .data, .sentinel, .sentinel, .pinned], laidTests := true, laidLooks := .later }
def FilterBackCardSaid : Prop := Claim7.holds Tryz.pinned (.plain (OpenSpec.ofChange filterBackSpec)) filterBackCard

/-- THE TIED CARD OF 'vergerlaw14.SearchRuns'. -/
def searchRunsCard : Claim7 := { stood := { row := searchRunsRow, standIns := [], harness := (true, "0fe6ed68e01840696d9c52abeabfd505907d961b2af6591dc10825a1aa288d59"), looks := true }, kinds := [], alts := [], laidByText := true, laidKinds := [.data, .data, .data, .data, .sentinel, .sentinel, .pinned], laidTests := true, laidLooks := .later }
def SearchRunsCardSaid : Prop := Claim7.holds Tryz.pinned (.plain (OpenSpec.ofChange searchRunsSpec)) searchRunsCard

/-- THE TIED CARD OF 'vergerlaw14.SearchSizes'. -/
def searchSizesCard : Claim7 := { stood := { row := searchSizesRow, standIns := [], harness := (true, "0fe6ed68e01840696d9c52abeabfd505907d961b2af6591dc10825a1aa288d59"), looks := true }, kinds := [], alts := [], laidByText := true, laidKinds := [.data, .data, .data, .data, .sentinel, .sentinel, .pinned], laidTests := true, laidLooks := .later }
def SearchSizesCardSaid : Prop := Claim7.holds Tryz.pinned (.plain (OpenSpec.ofChange searchSizesSpec)) searchSizesCard

/-- THE TIED CARD OF 'vergerlaw14.SearchPlain'. -/
def searchPlainCard : Claim7 := { stood := { row := searchPlainRow, standIns := [], harness := (true, "0fe6ed68e01840696d9c52abeabfd505907d961b2af6591dc10825a1aa288d59"), looks := true }, kinds := [], alts := [], laidByText := true, laidKinds := [.data, .data, .data, .data, .sentinel, .sentinel, .pinned], laidTests := true, laidLooks := .later }
def SearchPlainCardSaid : Prop := Claim7.holds Tryz.pinned (.plain (OpenSpec.ofChange searchPlainSpec)) searchPlainCard

/-- THE TIED CARD OF 'vergerlaw14.SearchParts'. -/
def searchPartsCard : Claim7 := { stood := { row := searchPartsRow, standIns := [], harness := (true, "0fe6ed68e01840696d9c52abeabfd505907d961b2af6591dc10825a1aa288d59"), looks := true }, kinds := [], alts := [], laidByText := true, laidKinds := [.data, .data, .data, .data, .sentinel, .sentinel, .pinned], laidTests := true, laidLooks := .later }
def SearchPartsCardSaid : Prop := Claim7.holds Tryz.pinned (.plain (OpenSpec.ofChange searchPartsSpec)) searchPartsCard

/-- THE SECOND FORM's CARD OF 'vergerlaw07.FilterEvals'. -/
def filterEvalsUptoCard : Claim7 := { stood := { row := filterEvalsUptoRow, standIns := [], harness := (true, "0fe6ed68e01840696d9c52abeabfd505907d961b2af6591dc10825a1aa288d59"), looks := true }, kinds := [], alts := [], laidByText := true, laidKinds := [.data, .data, .data, .data, .sentinel, .sentinel, .pinned], laidTests := true, laidLooks := .later }
def FilterEvalsUptoCardSaid : Prop := Claim7.holds Tryz.pinned (.plain (OpenSpec.upto filterEvalsSpec)) filterEvalsUptoCard

/-- THE SECOND FORM's CARD OF 'vergerlaw07.FilterPieces'. -/
def filterPiecesUptoCard : Claim7 := { stood := { row := filterPiecesUptoRow, standIns := [], harness := (true, "0fe6ed68e01840696d9c52abeabfd505907d961b2af6591dc10825a1aa288d59"), looks := true }, kinds := [], alts := [], laidByText := true, laidKinds := [.data, .data, .data, .data, .sentinel, .sentinel, .pinned], laidTests := true, laidLooks := .later }
def FilterPiecesUptoCardSaid : Prop := Claim7.holds Tryz.pinned (.plain (OpenSpec.upto filterPiecesSpec)) filterPiecesUptoCard

/-- THE SECOND FORM's CARD OF 'vergerlaw07.FilterPrints'. -/
def filterPrintsUptoCard : Claim7 := { stood := { row := filterPrintsUptoRow, standIns := [], harness := (true, "0fe6ed68e01840696d9c52abeabfd505907d961b2af6591dc10825a1aa288d59"), looks := true }, kinds := [], alts := [], laidByText := true, laidKinds := [.data, .data, .data, .data, .sentinel, .sentinel, .pinned], laidTests := true, laidLooks := .later }
def FilterPrintsUptoCardSaid : Prop := Claim7.holds Tryz.pinned (.plain (OpenSpec.upto filterPrintsSpec)) filterPrintsUptoCard

/-- THE SECOND FORM's CARD OF 'vergerlaw07.FilterBack'. -/
def filterBackUptoCard : Claim7 := { stood := { row := filterBackUptoRow, standIns := [], harness := (true, "0fe6ed68e01840696d9c52abeabfd505907d961b2af6591dc10825a1aa288d59"), looks := true }, kinds := [], alts := [], laidByText := true, laidKinds := [.data, .data, .data, .data, .sentinel, .sentinel, .pinned], laidTests := true, laidLooks := .later }
def FilterBackUptoCardSaid : Prop := Claim7.holds Tryz.pinned (.plain (OpenSpec.upto filterBackSpec)) filterBackUptoCard

/-- THE SECOND FORM's CARD OF 'vergerlaw14.SearchRuns'. -/
def searchRunsUptoCard : Claim7 := { stood := { row := searchRunsUptoRow, standIns := [], harness := (true, "0fe6ed68e01840696d9c52abeabfd505907d961b2af6591dc10825a1aa288d59"), looks := true }, kinds := [], alts := [], laidByText := true, laidKinds := [.data, .data, .data, .data, .sentinel, .sentinel, .pinned], laidTests := true, laidLooks := .later }
def SearchRunsUptoCardSaid : Prop := Claim7.holds Tryz.pinned (.plain (OpenSpec.upto searchRunsSpec)) searchRunsUptoCard

/-- THE SECOND FORM's CARD OF 'vergerlaw14.SearchSizes'. -/
def searchSizesUptoCard : Claim7 := { stood := { row := searchSizesUptoRow, standIns := [], harness := (true, "0fe6ed68e01840696d9c52abeabfd505907d961b2af6591dc10825a1aa288d59"), looks := true }, kinds := [], alts := [], laidByText := true, laidKinds := [.data, .data, .data, .data, .sentinel, .sentinel, .pinned], laidTests := true, laidLooks := .later }
def SearchSizesUptoCardSaid : Prop := Claim7.holds Tryz.pinned (.plain (OpenSpec.upto searchSizesSpec)) searchSizesUptoCard

/-- THE SECOND FORM's CARD OF 'vergerlaw14.SearchPlain'. -/
def searchPlainUptoCard : Claim7 := { stood := { row := searchPlainUptoRow, standIns := [], harness := (true, "0fe6ed68e01840696d9c52abeabfd505907d961b2af6591dc10825a1aa288d59"), looks := true }, kinds := [], alts := [], laidByText := true, laidKinds := [.data, .data, .data, .data, .sentinel, .sentinel, .pinned], laidTests := true, laidLooks := .later }
def SearchPlainUptoCardSaid : Prop := Claim7.holds Tryz.pinned (.plain (OpenSpec.upto searchPlainSpec)) searchPlainUptoCard

/-- THE SECOND FORM's CARD OF 'vergerlaw14.SearchParts'. -/
def searchPartsUptoCard : Claim7 := { stood := { row := searchPartsUptoRow, standIns := [], harness := (true, "0fe6ed68e01840696d9c52abeabfd505907d961b2af6591dc10825a1aa288d59"), looks := true }, kinds := [], alts := [], laidByText := true, laidKinds := [.data, .data, .data, .data, .sentinel, .sentinel, .pinned], laidTests := true, laidLooks := .later }
def SearchPartsUptoCardSaid : Prop := Claim7.holds Tryz.pinned (.plain (OpenSpec.upto searchPartsSpec)) searchPartsUptoCard
end Rows
end Go.Proofs.YtinebfdbacaahaaGreatDoor
