/-
  DERIVED. GIVEN WITH THE SEED: THE CARDS: each row of YtkeppoiomjhkpaaGreatDoorRows.lean that lists a variable, with what it lists TIED to the program's text (the seventh form; the later family's looks); each row that meets fmt, with fmt's text TOLD by the authors' own Lean function (tested against real Go, not proved from fmt's source: count such statements apart). THE CARD IS WHAT COUNTS. Prove the row's statement (the work); the ties are given (YtkeppoiomjhkpaaGreatDoorTie.lean); close each card by the builder's one call (the guide's Derived/Test/ToyasCard.lean, 'card_holds'). Laid BY PROGRAM, IN A SANDBOX (cutbox-door.mjs). By AI agents, Wed Nov 11 2026. No macro, syntax, notation, axiom, sorry.
-/
import Derived.Test.YtkeppoiomjhkpaaGreatDoorRows
import GoSem.ClaimSeven
namespace Go.Proofs.YtkeppoiomjhkpaaGreatDoor
namespace Rows

/-- THE TIED CARD OF 'laganlaw06.AwardSales'. -/
def awardSalesCard : Claim7 := { stood := { row := awardSalesRow, standIns := [], harness := (true, "5222af80240f6753114f4569246dfdb2a26fbad4887922b3c05ddaa557d8da58"), looks := true }, kinds := [], alts := [], laidByText := true, laidKinds := [.data, .data, .data, .data, .sentinel, .sentinel, .pinned], laidTests := true, laidLooks := .later }
def AwardSalesCardSaid : Prop := Claim7.holds Tryz.pinned (.plain (OpenSpec.ofChange awardSalesSpec)) awardSalesCard

/-- THE TIED CARD OF 'laganlaw06.AwardRates'. -/
def awardRatesCard : Claim7 := { stood := { row := awardRatesRow, standIns := [], harness := (true, "5222af80240f6753114f4569246dfdb2a26fbad4887922b3c05ddaa557d8da58"), looks := true }, kinds := [], alts := [], laidByText := true, laidKinds := [.data, .data, .data, .data, .sentinel, .sentinel, .pinned], laidTests := true, laidLooks := .later }
def AwardRatesCardSaid : Prop := Claim7.holds Tryz.pinned (.plain (OpenSpec.ofChange awardRatesSpec)) awardRatesCard

/-- THE SECOND FORM's CARD OF 'laganlaw06.AwardSales'. -/
def awardSalesUptoCard : Claim7 := { stood := { row := awardSalesUptoRow, standIns := [], harness := (true, "5222af80240f6753114f4569246dfdb2a26fbad4887922b3c05ddaa557d8da58"), looks := true }, kinds := [], alts := [], laidByText := true, laidKinds := [.data, .data, .data, .data, .sentinel, .sentinel, .pinned], laidTests := true, laidLooks := .later }
def AwardSalesUptoCardSaid : Prop := Claim7.holds Tryz.pinned (.plain (OpenSpec.upto awardSalesSpec)) awardSalesUptoCard

/-- THE SECOND FORM's CARD OF 'laganlaw06.AwardRates'. -/
def awardRatesUptoCard : Claim7 := { stood := { row := awardRatesUptoRow, standIns := [], harness := (true, "5222af80240f6753114f4569246dfdb2a26fbad4887922b3c05ddaa557d8da58"), looks := true }, kinds := [], alts := [], laidByText := true, laidKinds := [.data, .data, .data, .data, .sentinel, .sentinel, .pinned], laidTests := true, laidLooks := .later }
def AwardRatesUptoCardSaid : Prop := Claim7.holds Tryz.pinned (.plain (OpenSpec.upto awardRatesSpec)) awardRatesUptoCard
end Rows
end Go.Proofs.YtkeppoiomjhkpaaGreatDoor
