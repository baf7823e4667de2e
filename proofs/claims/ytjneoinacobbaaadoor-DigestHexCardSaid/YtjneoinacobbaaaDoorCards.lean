/-
  DERIVED. GIVEN WITH THE SEED: THE CARDS: each row of YtjneoinacobbaaaDoorRows.lean that lists a variable, with what it lists TIED to the program's text (the seventh form; the later family's looks); each row that meets fmt, with fmt's text TOLD by the authors' own Lean function (tested against real Go, not proved from fmt's source: count such statements apart). THE CARD IS WHAT COUNTS. Prove the row's statement (the work); the ties are given (YtjneoinacobbaaaDoorTie.lean); close each card by the builder's one call (the guide's Derived/Test/ToyasCard.lean, 'card_holds'). Laid BY PROGRAM, IN A SANDBOX (cutbox-door.mjs). By AI agents, Wed Nov 11 2026. No macro, syntax, notation, axiom, sorry.
-/
import Derived.Test.YtjneoinacobbaaaDoorRows
import GoSem.ClaimSeven
namespace Go.Proofs.YtjneoinacobbaaaDoor
namespace Rows

/-- THE TIED CARD OF 'exchequerlaw05.DigestParts'. -/
def digestPartsCard : Claim7 := { stood := { row := digestPartsRow, standIns := [], harness := (true, "b4b4275e5438f7dea401ced4d7fe684a3c568f605c1965622566c249fa9cbadb"), looks := false }, kinds := [], alts := [], laidByText := true, laidKinds := [.data, .data], laidTests := true, laidLooks := .later }
def DigestPartsCardSaid : Prop := Claim7.holds Tryd.pinned (.plain (OpenSpec.ofChange digestPartsSpec)) digestPartsCard

/-- THE TIED CARD OF 'exchequerlaw05.DigestHex'. -/
def digestHexCard : Claim7 := { stood := { row := digestHexRow, standIns := [], harness := (true, "b4b4275e5438f7dea401ced4d7fe684a3c568f605c1965622566c249fa9cbadb"), looks := false }, kinds := [], alts := [], laidByText := true, laidKinds := [.data, .data], laidTests := true, laidLooks := .later }
def DigestHexCardSaid : Prop := Claim7.holds Tryd.pinned (.plain (OpenSpec.ofChange digestHexSpec)) digestHexCard

/-- THE SECOND FORM's CARD OF 'exchequerlaw05.DigestParts'. -/
def digestPartsUptoCard : Claim7 := { stood := { row := digestPartsUptoRow, standIns := [], harness := (true, "b4b4275e5438f7dea401ced4d7fe684a3c568f605c1965622566c249fa9cbadb"), looks := false }, kinds := [], alts := [], laidByText := true, laidKinds := [.data, .data], laidTests := true, laidLooks := .later }
def DigestPartsUptoCardSaid : Prop := Claim7.holds Tryd.pinned (.plain (OpenSpec.upto digestPartsSpec)) digestPartsUptoCard

/-- THE SECOND FORM's CARD OF 'exchequerlaw05.DigestHex'. -/
def digestHexUptoCard : Claim7 := { stood := { row := digestHexUptoRow, standIns := [], harness := (true, "b4b4275e5438f7dea401ced4d7fe684a3c568f605c1965622566c249fa9cbadb"), looks := false }, kinds := [], alts := [], laidByText := true, laidKinds := [.data, .data], laidTests := true, laidLooks := .later }
def DigestHexUptoCardSaid : Prop := Claim7.holds Tryd.pinned (.plain (OpenSpec.upto digestHexSpec)) digestHexUptoCard
end Rows
end Go.Proofs.YtjneoinacobbaaaDoor
