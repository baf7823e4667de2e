/-
  DERIVED. GIVEN WITH THE SEED: THE CARDS: each row of YtejbljopighenaaDoorRows.lean that lists a variable, with what it lists TIED to the program's text (the seventh form; the later family's looks); each row that meets fmt, with fmt's text TOLD by the authors' own Lean function (tested against real Go, not proved from fmt's source: count such statements apart). THE CARD IS WHAT COUNTS. Prove the row's statement (the work); the ties are given (YtejbljopighenaaDoorTie.lean); close each card by the builder's one call (the guide's Derived/Test/ToyasCard.lean, 'card_holds'). Laid BY PROGRAM, IN A SANDBOX (cutbox-door.mjs). By AI agents, Wed Nov 11 2026. No macro, syntax, notation, axiom, sorry.
-/
import Derived.Test.YtejbljopighenaaDoorRows
import GoSem.ClaimSeven
namespace Go.Proofs.YtejbljopighenaaDoor
namespace Rows

/-- THE TIED CARD OF 'exchequerlaw21.BlockWrites'. -/
def blockWritesCard : Claim7 := { stood := { row := blockWritesRow, standIns := [], harness := (true, "4195f53d19c33f5a8c15c1c29abd0f89d3b47715033277bc9e595572171c8b73"), looks := false }, kinds := [], alts := [], laidByText := true, laidKinds := [.data, .data], laidTests := true, laidLooks := .later }
def BlockWritesCardSaid : Prop := Claim7.holds Tryd.pinned (.plain (OpenSpec.ofChange blockWritesSpec)) blockWritesCard

/-- THE TIED CARD OF 'exchequerlaw21.BlockLinks'. -/
def blockLinksCard : Claim7 := { stood := { row := blockLinksRow, standIns := [], harness := (true, "4195f53d19c33f5a8c15c1c29abd0f89d3b47715033277bc9e595572171c8b73"), looks := false }, kinds := [], alts := [], laidByText := true, laidKinds := [.data, .data], laidTests := true, laidLooks := .later }
def BlockLinksCardSaid : Prop := Claim7.holds Tryd.pinned (.plain (OpenSpec.ofChange blockLinksSpec)) blockLinksCard

/-- THE TIED CARD OF 'exchequerlaw21.BlockBack'. -/
def blockBackCard : Claim7 := { stood := { row := blockBackRow, standIns := [], harness := (true, "4195f53d19c33f5a8c15c1c29abd0f89d3b47715033277bc9e595572171c8b73"), looks := false }, kinds := [], alts := [], laidByText := true, laidKinds := [.data, .data], laidTests := true, laidLooks := .later }
def BlockBackCardSaid : Prop := Claim7.holds Tryd.pinned (.plain (OpenSpec.ofChange blockBackSpec)) blockBackCard

/-- THE TIED CARD OF 'exchequerlaw21.BlockHurt'. -/
def blockHurtCard : Claim7 := { stood := { row := blockHurtRow, standIns := [], harness := (true, "4195f53d19c33f5a8c15c1c29abd0f89d3b47715033277bc9e595572171c8b73"), looks := false }, kinds := [], alts := [], laidByText := true, laidKinds := [.data, .data], laidTests := true, laidLooks := .later }
def BlockHurtCardSaid : Prop := Claim7.holds Tryd.pinned (.plain (OpenSpec.ofChange blockHurtSpec)) blockHurtCard

/-- THE SECOND FORM's CARD OF 'exchequerlaw21.BlockWrites'. -/
def blockWritesUptoCard : Claim7 := { stood := { row := blockWritesUptoRow, standIns := [], harness := (true, "4195f53d19c33f5a8c15c1c29abd0f89d3b47715033277bc9e595572171c8b73"), looks := false }, kinds := [], alts := [], laidByText := true, laidKinds := [.data, .data], laidTests := true, laidLooks := .later }
def BlockWritesUptoCardSaid : Prop := Claim7.holds Tryd.pinned (.plain (OpenSpec.upto blockWritesSpec)) blockWritesUptoCard

/-- THE SECOND FORM's CARD OF 'exchequerlaw21.BlockLinks'. -/
def blockLinksUptoCard : Claim7 := { stood := { row := blockLinksUptoRow, standIns := [], harness := (true, "4195f53d19c33f5a8c15c1c29abd0f89d3b47715033277bc9e595572171c8b73"), looks := false }, kinds := [], alts := [], laidByText := true, laidKinds := [.data, .data], laidTests := true, laidLooks := .later }
def BlockLinksUptoCardSaid : Prop := Claim7.holds Tryd.pinned (.plain (OpenSpec.upto blockLinksSpec)) blockLinksUptoCard

/-- THE SECOND FORM's CARD OF 'exchequerlaw21.BlockBack'. -/
def blockBackUptoCard : Claim7 := { stood := { row := blockBackUptoRow, standIns := [], harness := (true, "4195f53d19c33f5a8c15c1c29abd0f89d3b47715033277bc9e595572171c8b73"), looks := false }, kinds := [], alts := [], laidByText := true, laidKinds := [.data, .data], laidTests := true, laidLooks := .later }
def BlockBackUptoCardSaid : Prop := Claim7.holds Tryd.pinned (.plain (OpenSpec.upto blockBackSpec)) blockBackUptoCard

/-- THE SECOND FORM's CARD OF 'exchequerlaw21.BlockHurt'. -/
def blockHurtUptoCard : Claim7 := { stood := { row := blockHurtUptoRow, standIns := [], harness := (true, "4195f53d19c33f5a8c15c1c29abd0f89d3b47715033277bc9e595572171c8b73"), looks := false }, kinds := [], alts := [], laidByText := true, laidKinds := [.data, .data], laidTests := true, laidLooks := .later }
def BlockHurtUptoCardSaid : Prop := Claim7.holds Tryd.pinned (.plain (OpenSpec.upto blockHurtSpec)) blockHurtUptoCard
end Rows
end Go.Proofs.YtejbljopighenaaDoor
