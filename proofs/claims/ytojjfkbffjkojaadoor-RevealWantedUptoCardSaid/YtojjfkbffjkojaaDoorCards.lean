/-
  DERIVED. GIVEN WITH THE SEED: THE CARDS: each row of YtojjfkbffjkojaaDoorRows.lean that lists a variable, with what it lists TIED to the program's text (the seventh form; the later family's looks); each row that meets fmt, with fmt's text TOLD by the authors' own Lean function (tested against real Go, not proved from fmt's source: count such statements apart). THE CARD IS WHAT COUNTS. Prove the row's statement (the work); the ties are given (YtojjfkbffjkojaaDoorTie.lean); close each card by the builder's one call (the guide's Derived/Test/ToyasCard.lean, 'card_holds'). Laid BY PROGRAM, IN A SANDBOX (cutbox-door.mjs). By AI agents, Wed Nov 11 2026. No macro, syntax, notation, axiom, sorry.
-/
import Derived.Test.YtojjfkbffjkojaaDoorRows
import GoSem.ClaimSeven
namespace Go.Proofs.YtojjfkbffjkojaaDoor
namespace Rows

/-- THE TIED CARD OF 'exchequerlaw10.RevealWays'. -/
def revealWaysCard : Claim7 := { stood := { row := revealWaysRow, standIns := [], harness := (true, "cf4af7aefc7e50674f90df1f38cc6407d5c01f4334b0c3f4c34957c2c5cfaf22"), looks := false }, kinds := [], alts := [], laidByText := true, laidKinds := [.data, .data], laidTests := true, laidLooks := .later }
def RevealWaysCardSaid : Prop := Claim7.holds Tryd.pinned (.plain (OpenSpec.ofChange revealWaysSpec)) revealWaysCard

/-- THE TIED CARD OF 'exchequerlaw10.RevealJoin'. -/
def revealJoinCard : Claim7 := { stood := { row := revealJoinRow, standIns := [], harness := (true, "cf4af7aefc7e50674f90df1f38cc6407d5c01f4334b0c3f4c34957c2c5cfaf22"), looks := false }, kinds := [], alts := [], laidByText := true, laidKinds := [.data, .data], laidTests := true, laidLooks := .later }
def RevealJoinCardSaid : Prop := Claim7.holds Tryd.pinned (.plain (OpenSpec.ofChange revealJoinSpec)) revealJoinCard

/-- THE TIED CARD OF 'exchequerlaw10.RevealOpens'. -/
def revealOpensCard : Claim7 := { stood := { row := revealOpensRow, standIns := [], harness := (true, "cf4af7aefc7e50674f90df1f38cc6407d5c01f4334b0c3f4c34957c2c5cfaf22"), looks := false }, kinds := [], alts := [], laidByText := true, laidKinds := [.data, .data], laidTests := true, laidLooks := .later }
def RevealOpensCardSaid : Prop := Claim7.holds Tryd.pinned (.plain (OpenSpec.ofChange revealOpensSpec)) revealOpensCard

/-- THE TIED CARD OF 'exchequerlaw10.RevealAgrees'. -/
def revealAgreesCard : Claim7 := { stood := { row := revealAgreesRow, standIns := [], harness := (true, "cf4af7aefc7e50674f90df1f38cc6407d5c01f4334b0c3f4c34957c2c5cfaf22"), looks := false }, kinds := [], alts := [], laidByText := true, laidKinds := [.data, .data], laidTests := true, laidLooks := .later }
def RevealAgreesCardSaid : Prop := Claim7.holds Tryd.pinned (.plain (OpenSpec.ofChange revealAgreesSpec)) revealAgreesCard

/-- THE TIED CARD OF 'exchequerlaw07.NodeReads'. -/
def nodeReadsCard : Claim7 := { stood := { row := nodeReadsRow, standIns := [], harness := (true, "cf4af7aefc7e50674f90df1f38cc6407d5c01f4334b0c3f4c34957c2c5cfaf22"), looks := false }, kinds := [], alts := [], laidByText := true, laidKinds := [.data, .data], laidTests := true, laidLooks := .later }
def NodeReadsCardSaid : Prop := Claim7.holds Tryd.pinned (.plain (OpenSpec.ofChange nodeReadsSpec)) nodeReadsCard

/-- THE TIED CARD OF 'exchequerlaw07.NodeDigests'. -/
def nodeDigestsCard : Claim7 := { stood := { row := nodeDigestsRow, standIns := [], harness := (true, "cf4af7aefc7e50674f90df1f38cc6407d5c01f4334b0c3f4c34957c2c5cfaf22"), looks := false }, kinds := [], alts := [], laidByText := true, laidKinds := [.data, .data], laidTests := true, laidLooks := .later }
def NodeDigestsCardSaid : Prop := Claim7.holds Tryd.pinned (.plain (OpenSpec.ofChange nodeDigestsSpec)) nodeDigestsCard

/-- THE TIED CARD OF 'exchequerlaw07.NodeFolds'. -/
def nodeFoldsCard : Claim7 := { stood := { row := nodeFoldsRow, standIns := [], harness := (true, "cf4af7aefc7e50674f90df1f38cc6407d5c01f4334b0c3f4c34957c2c5cfaf22"), looks := false }, kinds := [], alts := [], laidByText := true, laidKinds := [.data, .data], laidTests := true, laidLooks := .later }
def NodeFoldsCardSaid : Prop := Claim7.holds Tryd.pinned (.plain (OpenSpec.ofChange nodeFoldsSpec)) nodeFoldsCard

/-- THE TIED CARD OF 'exchequerlaw10.RevealWanted'. -/
def revealWantedCard : Claim7 := { stood := { row := revealWantedRow, standIns := [], harness := (true, "cf4af7aefc7e50674f90df1f38cc6407d5c01f4334b0c3f4c34957c2c5cfaf22"), looks := false }, kinds := [], alts := [], laidByText := true, laidKinds := [.data, .data], laidTests := true, laidLooks := .later }
def RevealWantedCardSaid : Prop := Claim7.holds Tryd.pinned (.plain (OpenSpec.ofChange revealWantedSpec)) revealWantedCard

/-- THE TIED CARD OF 'exchequerlaw07.NodeBack'. -/
def nodeBackCard : Claim7 := { stood := { row := nodeBackRow, standIns := [], harness := (true, "cf4af7aefc7e50674f90df1f38cc6407d5c01f4334b0c3f4c34957c2c5cfaf22"), looks := false }, kinds := [], alts := [], laidByText := true, laidKinds := [.data, .data], laidTests := true, laidLooks := .later }
def NodeBackCardSaid : Prop := Claim7.holds Tryd.pinned (.plain (OpenSpec.ofChange nodeBackSpec)) nodeBackCard

/-- THE TIED CARD OF 'exchequerlaw07.NodeSame'. -/
def nodeSameCard : Claim7 := { stood := { row := nodeSameRow, standIns := [], harness := (true, "cf4af7aefc7e50674f90df1f38cc6407d5c01f4334b0c3f4c34957c2c5cfaf22"), looks := false }, kinds := [], alts := [], laidByText := true, laidKinds := [.data, .data], laidTests := true, laidLooks := .later }
def NodeSameCardSaid : Prop := Claim7.holds Tryd.pinned (.plain (OpenSpec.ofChange nodeSameSpec)) nodeSameCard

/-- THE SECOND FORM's CARD OF 'exchequerlaw10.RevealWays'. -/
def revealWaysUptoCard : Claim7 := { stood := { row := revealWaysUptoRow, standIns := [], harness := (true, "cf4af7aefc7e50674f90df1f38cc6407d5c01f4334b0c3f4c34957c2c5cfaf22"), looks := false }, kinds := [], alts := [], laidByText := true, laidKinds := [.data, .data], laidTests := true, laidLooks := .later }
def RevealWaysUptoCardSaid : Prop := Claim7.holds Tryd.pinned (.plain (OpenSpec.upto revealWaysSpec)) revealWaysUptoCard

/-- THE SECOND FORM's CARD OF 'exchequerlaw10.RevealJoin'. -/
def revealJoinUptoCard : Claim7 := { stood := { row := revealJoinUptoRow, standIns := [], harness := (true, "cf4af7aefc7e50674f90df1f38cc6407d5c01f4334b0c3f4c34957c2c5cfaf22"), looks := false }, kinds := [], alts := [], laidByText := true, laidKinds := [.data, .data], laidTests := true, laidLooks := .later }
def RevealJoinUptoCardSaid : Prop := Claim7.holds Tryd.pinned (.plain (OpenSpec.upto revealJoinSpec)) revealJoinUptoCard

/-- THE SECOND FORM's CARD OF 'exchequerlaw10.RevealOpens'. -/
def revealOpensUptoCard : Claim7 := { stood := { row := revealOpensUptoRow, standIns := [], harness := (true, "cf4af7aefc7e50674f90df1f38cc6407d5c01f4334b0c3f4c34957c2c5cfaf22"), looks := false }, kinds := [], alts := [], laidByText := true, laidKinds := [.data, .data], laidTests := true, laidLooks := .later }
def RevealOpensUptoCardSaid : Prop := Claim7.holds Tryd.pinned (.plain (OpenSpec.upto revealOpensSpec)) revealOpensUptoCard

/-- THE SECOND FORM's CARD OF 'exchequerlaw10.RevealAgrees'. -/
def revealAgreesUptoCard : Claim7 := { stood := { row := revealAgreesUptoRow, standIns := [], harness := (true, "cf4af7aefc7e50674f90df1f38cc6407d5c01f4334b0c3f4c34957c2c5cfaf22"), looks := false }, kinds := [], alts := [], laidByText := true, laidKinds := [.data, .data], laidTests := true, laidLooks := .later }
def RevealAgreesUptoCardSaid : Prop := Claim7.holds Tryd.pinned (.plain (OpenSpec.upto revealAgreesSpec)) revealAgreesUptoCard

/-- THE SECOND FORM's CARD OF 'exchequerlaw07.NodeReads'. -/
def nodeReadsUptoCard : Claim7 := { stood := { row := nodeReadsUptoRow, standIns := [], harness := (true, "cf4af7aefc7e50674f90df1f38cc6407d5c01f4334b0c3f4c34957c2c5cfaf22"), looks := false }, kinds := [], alts := [], laidByText := true, laidKinds := [.data, .data], laidTests := true, laidLooks := .later }
def NodeReadsUptoCardSaid : Prop := Claim7.holds Tryd.pinned (.plain (OpenSpec.upto nodeReadsSpec)) nodeReadsUptoCard

/-- THE SECOND FORM's CARD OF 'exchequerlaw07.NodeDigests'. -/
def nodeDigestsUptoCard : Claim7 := { stood := { row := nodeDigestsUptoRow, standIns := [], harness := (true, "cf4af7aefc7e50674f90df1f38cc6407d5c01f4334b0c3f4c34957c2c5cfaf22"), looks := false }, kinds := [], alts := [], laidByText := true, laidKinds := [.data, .data], laidTests := true, laidLooks := .later }
def NodeDigestsUptoCardSaid : Prop := Claim7.holds Tryd.pinned (.plain (OpenSpec.upto nodeDigestsSpec)) nodeDigestsUptoCard

/-- THE SECOND FORM's CARD OF 'exchequerlaw07.NodeFolds'. -/
def nodeFoldsUptoCard : Claim7 := { stood := { row := nodeFoldsUptoRow, standIns := [], harness := (true, "cf4af7aefc7e50674f90df1f38cc6407d5c01f4334b0c3f4c34957c2c5cfaf22"), looks := false }, kinds := [], alts := [], laidByText := true, laidKinds := [.data, .data], laidTests := true, laidLooks := .later }
def NodeFoldsUptoCardSaid : Prop := Claim7.holds Tryd.pinned (.plain (OpenSpec.upto nodeFoldsSpec)) nodeFoldsUptoCard

/-- THE SECOND FORM's CARD OF 'exchequerlaw10.RevealWanted'. -/
def revealWantedUptoCard : Claim7 := { stood := { row := revealWantedUptoRow, standIns := [], harness := (true, "cf4af7aefc7e50674f90df1f38cc6407d5c01f4334b0c3f4c34957c2c5cfaf22"), looks := false }, kinds := [], alts := [], laidByText := true, laidKinds := [.data, .data], laidTests := true, laidLooks := .later }
def RevealWantedUptoCardSaid : Prop := Claim7.holds Tryd.pinned (.plain (OpenSpec.upto revealWantedSpec)) revealWantedUptoCard

/-- THE SECOND FORM's CARD OF 'exchequerlaw07.NodeBack'. -/
def nodeBackUptoCard : Claim7 := { stood := { row := nodeBackUptoRow, standIns := [], harness := (true, "cf4af7aefc7e50674f90df1f38cc6407d5c01f4334b0c3f4c34957c2c5cfaf22"), looks := false }, kinds := [], alts := [], laidByText := true, laidKinds := [.data, .data], laidTests := true, laidLooks := .later }
def NodeBackUptoCardSaid : Prop := Claim7.holds Tryd.pinned (.plain (OpenSpec.upto nodeBackSpec)) nodeBackUptoCard

/-- THE SECOND FORM's CARD OF 'exchequerlaw07.NodeSame'. -/
def nodeSameUptoCard : Claim7 := { stood := { row := nodeSameUptoRow, standIns := [], harness := (true, "cf4af7aefc7e50674f90df1f38cc6407d5c01f4334b0c3f4c34957c2c5cfaf22"), looks := false }, kinds := [], alts := [], laidByText := true, laidKinds := [.data, .data], laidTests := true, laidLooks := .later }
def NodeSameUptoCardSaid : Prop := Claim7.holds Tryd.pinned (.plain (OpenSpec.upto nodeSameSpec)) nodeSameUptoCard
end Rows
end Go.Proofs.YtojjfkbffjkojaaDoor
