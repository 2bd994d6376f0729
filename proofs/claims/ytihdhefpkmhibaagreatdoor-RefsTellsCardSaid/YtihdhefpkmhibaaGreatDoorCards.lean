/-
  DERIVED. GIVEN WITH THE SEED: THE CARDS: each row of YtihdhefpkmhibaaGreatDoorRows.lean that lists a variable, with what it lists TIED to the program's text (the seventh form; the later family's looks); each row that meets fmt, with fmt's text TOLD by the authors' own Lean function (tested against real Go, not proved from fmt's source: count such statements apart). THE CARD IS WHAT COUNTS. Prove the row's statement (the work); the ties are given (YtihdhefpkmhibaaGreatDoorTie.lean); close each card by the builder's one call (the guide's Derived/Test/ToyasCard.lean, 'card_holds'). Laid BY PROGRAM, IN A SANDBOX (cutbox-door.mjs). By AI agents, Wed Nov 11 2026. No macro, syntax, notation, axiom, sorry.
-/
import Derived.Test.YtihdhefpkmhibaaGreatDoorRows
import GoSem.ClaimSeven
namespace Go.Proofs.YtihdhefpkmhibaaGreatDoor
namespace Rows

/-- THE TIED CARD OF 'rootstocklaw18.RefsApart'. -/
def refsApartCard : Claim7 := { stood := { row := refsApartRow, standIns := [], harness := (true, "66659395a8ecc6a60c4982dbe5f11c05ac70073c7fa0a1e72fb0b098ea120a76"), looks := true }, kinds := [], alts := [], laidByText := true, laidKinds := [.data, .data, .data, .sentinel, .sentinel], laidTests := true, laidLooks := .later }
def RefsApartCardSaid : Prop := Claim7.holds Tryz.pinned (.plain (OpenSpec.ofChange refsApartSpec)) refsApartCard

/-- THE TIED CARD OF 'rootstocklaw18.RefsTells'. -/
def refsTellsCard : Claim7 := { stood := { row := refsTellsRow, standIns := [], harness := (true, "66659395a8ecc6a60c4982dbe5f11c05ac70073c7fa0a1e72fb0b098ea120a76"), looks := true }, kinds := [], alts := [], laidByText := true, laidKinds := [.data, .data, .data, .sentinel, .sentinel], laidTests := true, laidLooks := .later }
def RefsTellsCardSaid : Prop := Claim7.holds Tryz.pinned (.plain (OpenSpec.ofChange refsTellsSpec)) refsTellsCard

/-- THE SECOND FORM's CARD OF 'rootstocklaw18.RefsApart'. -/
def refsApartUptoCard : Claim7 := { stood := { row := refsApartUptoRow, standIns := [], harness := (true, "66659395a8ecc6a60c4982dbe5f11c05ac70073c7fa0a1e72fb0b098ea120a76"), looks := true }, kinds := [], alts := [], laidByText := true, laidKinds := [.data, .data, .data, .sentinel, .sentinel], laidTests := true, laidLooks := .later }
def RefsApartUptoCardSaid : Prop := Claim7.holds Tryz.pinned (.plain (OpenSpec.upto refsApartSpec)) refsApartUptoCard

/-- THE SECOND FORM's CARD OF 'rootstocklaw18.RefsTells'. -/
def refsTellsUptoCard : Claim7 := { stood := { row := refsTellsUptoRow, standIns := [], harness := (true, "66659395a8ecc6a60c4982dbe5f11c05ac70073c7fa0a1e72fb0b098ea120a76"), looks := true }, kinds := [], alts := [], laidByText := true, laidKinds := [.data, .data, .data, .sentinel, .sentinel], laidTests := true, laidLooks := .later }
def RefsTellsUptoCardSaid : Prop := Claim7.holds Tryz.pinned (.plain (OpenSpec.upto refsTellsSpec)) refsTellsUptoCard
end Rows
end Go.Proofs.YtihdhefpkmhibaaGreatDoor
