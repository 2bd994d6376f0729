/-
  DERIVED. GIVEN WITH THE SEED: THE CARDS: each row of YtdcjlbfmdkgcpaaGreatDoorRows.lean that lists a variable, with what it lists TIED to the program's text (the seventh form; the later family's looks); each row that meets fmt, with fmt's text TOLD by the authors' own Lean function (tested against real Go, not proved from fmt's source: count such statements apart). THE CARD IS WHAT COUNTS. Prove the row's statement (the work); the ties are given (YtdcjlbfmdkgcpaaGreatDoorTie.lean); close each card by the builder's one call (the guide's Derived/Test/ToyasCard.lean, 'card_holds'). Laid BY PROGRAM, IN A SANDBOX (cutbox-door.mjs). By AI agents, Wed Nov 11 2026. No macro, syntax, notation, axiom, sorry.
-/
import Derived.Test.YtdcjlbfmdkgcpaaGreatDoorRows
import GoSem.ClaimSeven
namespace Go.Proofs.YtdcjlbfmdkgcpaaGreatDoor
namespace Rows

/-- THE TIED CARD OF 'rootstocklaw18.RefsMany'. -/
def refsManyCard : Claim7 := { stood := { row := refsManyRow, standIns := [], harness := (true, "4a701470eb8962aead9a489e0c47800d8410314aca954dc48d522d9a09dc91df"), looks := true }, kinds := [], alts := [], laidByText := true, laidKinds := [.data, .data, .data, .sentinel, .sentinel], laidTests := true, laidLooks := .later }
def RefsManyCardSaid : Prop := Claim7.holds Tryz.pinned (.plain (OpenSpec.ofChange refsManySpec)) refsManyCard

/-- THE TIED CARD OF 'rootstocklaw18.RefsReads'. -/
def refsReadsCard : Claim7 := { stood := { row := refsReadsRow, standIns := [], harness := (true, "4a701470eb8962aead9a489e0c47800d8410314aca954dc48d522d9a09dc91df"), looks := true }, kinds := [], alts := [], laidByText := true, laidKinds := [.data, .data, .data, .sentinel, .sentinel], laidTests := true, laidLooks := .later }
def RefsReadsCardSaid : Prop := Claim7.holds Tryz.pinned (.plain (OpenSpec.ofChange refsReadsSpec)) refsReadsCard

/-- THE TIED CARD OF 'rootstocklaw18.RefsBack'. -/
def refsBackCard : Claim7 := { stood := { row := refsBackRow, standIns := [], harness := (true, "4a701470eb8962aead9a489e0c47800d8410314aca954dc48d522d9a09dc91df"), looks := true }, kinds := [], alts := [], laidByText := true, laidKinds := [.data, .data, .data, .sentinel, .sentinel], laidTests := true, laidLooks := .later }
def RefsBackCardSaid : Prop := Claim7.holds Tryz.pinned (.plain (OpenSpec.ofChange refsBackSpec)) refsBackCard

/-- THE SECOND FORM's CARD OF 'rootstocklaw18.RefsMany'. -/
def refsManyUptoCard : Claim7 := { stood := { row := refsManyUptoRow, standIns := [], harness := (true, "4a701470eb8962aead9a489e0c47800d8410314aca954dc48d522d9a09dc91df"), looks := true }, kinds := [], alts := [], laidByText := true, laidKinds := [.data, .data, .data, .sentinel, .sentinel], laidTests := true, laidLooks := .later }
def RefsManyUptoCardSaid : Prop := Claim7.holds Tryz.pinned (.plain (OpenSpec.upto refsManySpec)) refsManyUptoCard

/-- THE SECOND FORM's CARD OF 'rootstocklaw18.RefsReads'. -/
def refsReadsUptoCard : Claim7 := { stood := { row := refsReadsUptoRow, standIns := [], harness := (true, "4a701470eb8962aead9a489e0c47800d8410314aca954dc48d522d9a09dc91df"), looks := true }, kinds := [], alts := [], laidByText := true, laidKinds := [.data, .data, .data, .sentinel, .sentinel], laidTests := true, laidLooks := .later }
def RefsReadsUptoCardSaid : Prop := Claim7.holds Tryz.pinned (.plain (OpenSpec.upto refsReadsSpec)) refsReadsUptoCard

/-- THE SECOND FORM's CARD OF 'rootstocklaw18.RefsBack'. -/
def refsBackUptoCard : Claim7 := { stood := { row := refsBackUptoRow, standIns := [], harness := (true, "4a701470eb8962aead9a489e0c47800d8410314aca954dc48d522d9a09dc91df"), looks := true }, kinds := [], alts := [], laidByText := true, laidKinds := [.data, .data, .data, .sentinel, .sentinel], laidTests := true, laidLooks := .later }
def RefsBackUptoCardSaid : Prop := Claim7.holds Tryz.pinned (.plain (OpenSpec.upto refsBackSpec)) refsBackUptoCard
end Rows
end Go.Proofs.YtdcjlbfmdkgcpaaGreatDoor
