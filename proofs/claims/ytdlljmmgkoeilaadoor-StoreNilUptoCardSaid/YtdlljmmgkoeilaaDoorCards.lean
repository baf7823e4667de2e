/-
  DERIVED. GIVEN WITH THE SEED: THE CARDS: each row of YtdlljmmgkoeilaaDoorRows.lean that lists a variable, with what it lists TIED to the program's text (the seventh form; the later family's looks); each row that meets fmt, with fmt's text TOLD by the authors' own Lean function (tested against real Go, not proved from fmt's source: count such statements apart). THE CARD IS WHAT COUNTS. Prove the row's statement (the work); the ties are given (YtdlljmmgkoeilaaDoorTie.lean); close each card by the builder's one call (the guide's Derived/Test/ToyasCard.lean, 'card_holds'). Laid BY PROGRAM, IN A SANDBOX (cutbox-door.mjs). By AI agents, Wed Nov 11 2026. No macro, syntax, notation, axiom, sorry.
-/
import Derived.Test.YtdlljmmgkoeilaaDoorRows
import GoSem.ClaimSeven
namespace Go.Proofs.YtdlljmmgkoeilaaDoor
namespace Rows

/-- THE TIED CARD OF 'exchequerlaw17.StoreNil'. -/
def storeNilCard : Claim7 := { stood := { row := storeNilRow, standIns := [], harness := (true, "e134f445f2cac86dd4a291f0c180cd9743eec7070c281dea1da1af2bda7dc13c"), looks := false }, kinds := [], alts := [], laidByText := true, laidKinds := [.data, .data], laidTests := true, laidLooks := .later }
def StoreNilCardSaid : Prop := Claim7.holds Tryd.pinned (.plain (OpenSpec.ofChange storeNilSpec)) storeNilCard

/-- THE TIED CARD OF 'exchequerlaw17.StoreNests'. -/
def storeNestsCard : Claim7 := { stood := { row := storeNestsRow, standIns := [], harness := (true, "e134f445f2cac86dd4a291f0c180cd9743eec7070c281dea1da1af2bda7dc13c"), looks := false }, kinds := [], alts := [], laidByText := true, laidKinds := [.data, .data], laidTests := true, laidLooks := .later }
def StoreNestsCardSaid : Prop := Claim7.holds Tryd.pinned (.plain (OpenSpec.ofChange storeNestsSpec)) storeNestsCard

/-- THE TIED CARD OF 'exchequerlaw17.StoreUndoes'. -/
def storeUndoesCard : Claim7 := { stood := { row := storeUndoesRow, standIns := [], harness := (true, "e134f445f2cac86dd4a291f0c180cd9743eec7070c281dea1da1af2bda7dc13c"), looks := false }, kinds := [], alts := [], laidByText := true, laidKinds := [.data, .data], laidTests := true, laidLooks := .later }
def StoreUndoesCardSaid : Prop := Claim7.holds Tryd.pinned (.plain (OpenSpec.ofChange storeUndoesSpec)) storeUndoesCard

/-- THE SECOND FORM's CARD OF 'exchequerlaw17.StoreNil'. -/
def storeNilUptoCard : Claim7 := { stood := { row := storeNilUptoRow, standIns := [], harness := (true, "e134f445f2cac86dd4a291f0c180cd9743eec7070c281dea1da1af2bda7dc13c"), looks := false }, kinds := [], alts := [], laidByText := true, laidKinds := [.data, .data], laidTests := true, laidLooks := .later }
def StoreNilUptoCardSaid : Prop := Claim7.holds Tryd.pinned (.plain (OpenSpec.upto storeNilSpec)) storeNilUptoCard

/-- THE SECOND FORM's CARD OF 'exchequerlaw17.StoreNests'. -/
def storeNestsUptoCard : Claim7 := { stood := { row := storeNestsUptoRow, standIns := [], harness := (true, "e134f445f2cac86dd4a291f0c180cd9743eec7070c281dea1da1af2bda7dc13c"), looks := false }, kinds := [], alts := [], laidByText := true, laidKinds := [.data, .data], laidTests := true, laidLooks := .later }
def StoreNestsUptoCardSaid : Prop := Claim7.holds Tryd.pinned (.plain (OpenSpec.upto storeNestsSpec)) storeNestsUptoCard

/-- THE SECOND FORM's CARD OF 'exchequerlaw17.StoreUndoes'. -/
def storeUndoesUptoCard : Claim7 := { stood := { row := storeUndoesUptoRow, standIns := [], harness := (true, "e134f445f2cac86dd4a291f0c180cd9743eec7070c281dea1da1af2bda7dc13c"), looks := false }, kinds := [], alts := [], laidByText := true, laidKinds := [.data, .data], laidTests := true, laidLooks := .later }
def StoreUndoesUptoCardSaid : Prop := Claim7.holds Tryd.pinned (.plain (OpenSpec.upto storeUndoesSpec)) storeUndoesUptoCard
end Rows
end Go.Proofs.YtdlljmmgkoeilaaDoor
