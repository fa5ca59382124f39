/-
  DERIVED. GIVEN WITH THE SEED: THE CARDS: each row of YtmeomhojbobpbaaGreatDoorRows.lean that lists a variable, with what it lists TIED to the program's text (the seventh form; the later family's looks); each row that meets fmt, with fmt's text TOLD by the authors' own Lean function (tested against real Go, not proved from fmt's source: count such statements apart). THE CARD IS WHAT COUNTS. Prove the row's statement (the work); the ties are given (YtmeomhojbobpbaaGreatDoorTie.lean); close each card by the builder's one call (the guide's Derived/Test/ToyasCard.lean, 'card_holds'). Laid BY PROGRAM, IN A SANDBOX (cutbox-door.mjs). By AI agents, Wed Nov 11 2026. No macro, syntax, notation, axiom, sorry.
-/
import Derived.Test.YtmeomhojbobpbaaGreatDoorRows
import GoSem.ClaimSeven
namespace Go.Proofs.YtmeomhojbobpbaaGreatDoor
namespace Rows

/-- THE TIED CARD OF 'laganlaw05.ClaimSums'. -/
def claimSumsCard : Claim7 := { stood := { row := claimSumsRow, standIns := [], harness := (true, "eea07cc34dd4f8ff0093a9ec986f7dca4c6619cad35284781fff088d8ff66766"), looks := true }, kinds := [], alts := [], laidByText := true, laidKinds := [.data, .data, .data, .data, .sentinel, .sentinel, .pinned], laidTests := true, laidLooks := .later }
def ClaimSumsCardSaid : Prop := Claim7.holds Tryz.pinned (.plain (OpenSpec.ofChange claimSumsSpec)) claimSumsCard

/-- THE TIED CARD OF 'laganlaw05.ClaimSplits'. -/
def claimSplitsCard : Claim7 := { stood := { row := claimSplitsRow, standIns := [], harness := (true, "eea07cc34dd4f8ff0093a9ec986f7dca4c6619cad35284781fff088d8ff66766"), looks := true }, kinds := [], alts := [], laidByText := true, laidKinds := [.data, .data, .data, .data, .sentinel, .sentinel, .pinned], laidTests := true, laidLooks := .later }
def ClaimSplitsCardSaid : Prop := Claim7.holds Tryz.pinned (.plain (OpenSpec.ofChange claimSplitsSpec)) claimSplitsCard

/-- THE TIED CARD OF 'laganlaw05.ClaimTexts'. -/
def claimTextsCard : Claim7 := { stood := { row := claimTextsRow, standIns := [], harness := (true, "eea07cc34dd4f8ff0093a9ec986f7dca4c6619cad35284781fff088d8ff66766"), looks := true }, kinds := [], alts := [], laidByText := true, laidKinds := [.data, .data, .data, .data, .sentinel, .sentinel, .pinned], laidTests := true, laidLooks := .later }
def ClaimTextsCardSaid : Prop := Claim7.holds Tryz.pinned (.plain (OpenSpec.ofChange claimTextsSpec)) claimTextsCard

/-- THE TIED CARD OF 'laganlaw05.ClaimPence'. -/
def claimPenceCard : Claim7 := { stood := { row := claimPenceRow, standIns := [], harness := (true, "eea07cc34dd4f8ff0093a9ec986f7dca4c6619cad35284781fff088d8ff66766"), looks := true }, kinds := [], alts := [], laidByText := true, laidKinds := [.data, .data, .data, .data, .sentinel, .sentinel, .pinned], laidTests := true, laidLooks := .later }
def ClaimPenceCardSaid : Prop := Claim7.holds Tryz.pinned (.plain (OpenSpec.ofChange claimPenceSpec)) claimPenceCard

/-- THE TIED CARD OF 'laganlaw05.ClaimDeeds'. -/
def claimDeedsCard : Claim7 := { stood := { row := claimDeedsRow, standIns := [], harness := (true, "eea07cc34dd4f8ff0093a9ec986f7dca4c6619cad35284781fff088d8ff66766"), looks := true }, kinds := [], alts := [], laidByText := true, laidKinds := [.data, .data, .data, .data, .sentinel, .sentinel, .pinned], laidTests := true, laidLooks := .later }
def ClaimDeedsCardSaid : Prop := Claim7.holds Tryz.pinned (.plain (OpenSpec.ofChange claimDeedsSpec)) claimDeedsCard

/-- THE TIED CARD OF 'laganlaw05.ClaimRules'. -/
def claimRulesCard : Claim7 := { stood := { row := claimRulesRow, standIns := [], harness := (true, "eea07cc34dd4f8ff0093a9ec986f7dca4c6619cad35284781fff088d8ff66766"), looks := true }, kinds := [], alts := [], laidByText := true, laidKinds := [.data, .data, .data, .data, .sentinel, .sentinel, .pinned], laidTests := true, laidLooks := .later }
def ClaimRulesCardSaid : Prop := Claim7.holds Tryz.pinned (.plain (OpenSpec.ofChange claimRulesSpec)) claimRulesCard

/-- THE TIED CARD OF 'laganlaw05.ClaimParts'. -/
def claimPartsCard : Claim7 := { stood := { row := claimPartsRow, standIns := [], harness := (true, "eea07cc34dd4f8ff0093a9ec986f7dca4c6619cad35284781fff088d8ff66766"), looks := true }, kinds := [], alts := [], laidByText := true, laidKinds := [.data, .data, .data, .data, .sentinel, .sentinel, .pinned], laidTests := true, laidLooks := .later }
def ClaimPartsCardSaid : Prop := Claim7.holds Tryz.pinned (.plain (OpenSpec.ofChange claimPartsSpec)) claimPartsCard

/-- THE TIED CARD OF 'laganlaw05.ClaimCommon'. -/
def claimCommonCard : Claim7 := { stood := { row := claimCommonRow, standIns := [], harness := (true, "eea07cc34dd4f8ff0093a9ec986f7dca4c6619cad35284781fff088d8ff66766"), looks := true }, kinds := [], alts := [], laidByText := true, laidKinds := [.data, .data, .data, .data, .sentinel, .sentinel, .pinned], laidTests := true, laidLooks := .later }
def ClaimCommonCardSaid : Prop := Claim7.holds Tryz.pinned (.plain (OpenSpec.ofChange claimCommonSpec)) claimCommonCard

/-- THE TIED CARD OF 'laganlaw05.ClaimSure'. -/
def claimSureCard : Claim7 := { stood := { row := claimSureRow, standIns := [], harness := (true, "eea07cc34dd4f8ff0093a9ec986f7dca4c6619cad35284781fff088d8ff66766"), looks := true }, kinds := [], alts := [], laidByText := true, laidKinds := [.data, .data, .data, .data, .sentinel, .sentinel, .pinned], laidTests := true, laidLooks := .later }
def ClaimSureCardSaid : Prop := Claim7.holds Tryz.pinned (.plain (OpenSpec.ofChange claimSureSpec)) claimSureCard

/-- THE TIED CARD OF 'laganlaw05.ClaimMemory'. -/
def claimMemoryCard : Claim7 := { stood := { row := claimMemoryRow, standIns := [], harness := (true, "eea07cc34dd4f8ff0093a9ec986f7dca4c6619cad35284781fff088d8ff66766"), looks := true }, kinds := [], alts := [], laidByText := true, laidKinds := [.data, .data, .data, .data, .sentinel, .sentinel, .pinned], laidTests := true, laidLooks := .later }
def ClaimMemoryCardSaid : Prop := Claim7.holds Tryz.pinned (.plain (OpenSpec.ofChange claimMemorySpec)) claimMemoryCard

/-- THE TIED CARD OF 'laganlaw05.ClaimFractions'. -/
def claimFractionsCard : Claim7 := { stood := { row := claimFractionsRow, standIns := [], harness := (true, "eea07cc34dd4f8ff0093a9ec986f7dca4c6619cad35284781fff088d8ff66766"), looks := true }, kinds := [], alts := [], laidByText := true, laidKinds := [.data, .data, .data, .data, .sentinel, .sentinel, .pinned], laidTests := true, laidLooks := .later }
def ClaimFractionsCardSaid : Prop := Claim7.holds Tryz.pinned (.plain (OpenSpec.ofChange claimFractionsSpec)) claimFractionsCard

/-- THE SECOND FORM's CARD OF 'laganlaw05.ClaimSums'. -/
def claimSumsUptoCard : Claim7 := { stood := { row := claimSumsUptoRow, standIns := [], harness := (true, "eea07cc34dd4f8ff0093a9ec986f7dca4c6619cad35284781fff088d8ff66766"), looks := true }, kinds := [], alts := [], laidByText := true, laidKinds := [.data, .data, .data, .data, .sentinel, .sentinel, .pinned], laidTests := true, laidLooks := .later }
def ClaimSumsUptoCardSaid : Prop := Claim7.holds Tryz.pinned (.plain (OpenSpec.upto claimSumsSpec)) claimSumsUptoCard

/-- THE SECOND FORM's CARD OF 'laganlaw05.ClaimSplits'. -/
def claimSplitsUptoCard : Claim7 := { stood := { row := claimSplitsUptoRow, standIns := [], harness := (true, "eea07cc34dd4f8ff0093a9ec986f7dca4c6619cad35284781fff088d8ff66766"), looks := true }, kinds := [], alts := [], laidByText := true, laidKinds := [.data, .data, .data, .data, .sentinel, .sentinel, .pinned], laidTests := true, laidLooks := .later }
def ClaimSplitsUptoCardSaid : Prop := Claim7.holds Tryz.pinned (.plain (OpenSpec.upto claimSplitsSpec)) claimSplitsUptoCard

/-- THE SECOND FORM's CARD OF 'laganlaw05.ClaimTexts'. -/
def claimTextsUptoCard : Claim7 := { stood := { row := claimTextsUptoRow, standIns := [], harness := (true, "eea07cc34dd4f8ff0093a9ec986f7dca4c6619cad35284781fff088d8ff66766"), looks := true }, kinds := [], alts := [], laidByText := true, laidKinds := [.data, .data, .data, .data, .sentinel, .sentinel, .pinned], laidTests := true, laidLooks := .later }
def ClaimTextsUptoCardSaid : Prop := Claim7.holds Tryz.pinned (.plain (OpenSpec.upto claimTextsSpec)) claimTextsUptoCard

/-- THE SECOND FORM's CARD OF 'laganlaw05.ClaimPence'. -/
def claimPenceUptoCard : Claim7 := { stood := { row := claimPenceUptoRow, standIns := [], harness := (true, "eea07cc34dd4f8ff0093a9ec986f7dca4c6619cad35284781fff088d8ff66766"), looks := true }, kinds := [], alts := [], laidByText := true, laidKinds := [.data, .data, .data, .data, .sentinel, .sentinel, .pinned], laidTests := true, laidLooks := .later }
def ClaimPenceUptoCardSaid : Prop := Claim7.holds Tryz.pinned (.plain (OpenSpec.upto claimPenceSpec)) claimPenceUptoCard

/-- THE SECOND FORM's CARD OF 'laganlaw05.ClaimDeeds'. -/
def claimDeedsUptoCard : Claim7 := { stood := { row := claimDeedsUptoRow, standIns := [], harness := (true, "eea07cc34dd4f8ff0093a9ec986f7dca4c6619cad35284781fff088d8ff66766"), looks := true }, kinds := [], alts := [], laidByText := true, laidKinds := [.data, .data, .data, .data, .sentinel, .sentinel, .pinned], laidTests := true, laidLooks := .later }
def ClaimDeedsUptoCardSaid : Prop := Claim7.holds Tryz.pinned (.plain (OpenSpec.upto claimDeedsSpec)) claimDeedsUptoCard

/-- THE SECOND FORM's CARD OF 'laganlaw05.ClaimRules'. -/
def claimRulesUptoCard : Claim7 := { stood := { row := claimRulesUptoRow, standIns := [], harness := (true, "eea07cc34dd4f8ff0093a9ec986f7dca4c6619cad35284781fff088d8ff66766"), looks := true }, kinds := [], alts := [], laidByText := true, laidKinds := [.data, .data, .data, .data, .sentinel, .sentinel, .pinned], laidTests := true, laidLooks := .later }
def ClaimRulesUptoCardSaid : Prop := Claim7.holds Tryz.pinned (.plain (OpenSpec.upto claimRulesSpec)) claimRulesUptoCard

/-- THE SECOND FORM's CARD OF 'laganlaw05.ClaimParts'. -/
def claimPartsUptoCard : Claim7 := { stood := { row := claimPartsUptoRow, standIns := [], harness := (true, "eea07cc34dd4f8ff0093a9ec986f7dca4c6619cad35284781fff088d8ff66766"), looks := true }, kinds := [], alts := [], laidByText := true, laidKinds := [.data, .data, .data, .data, .sentinel, .sentinel, .pinned], laidTests := true, laidLooks := .later }
def ClaimPartsUptoCardSaid : Prop := Claim7.holds Tryz.pinned (.plain (OpenSpec.upto claimPartsSpec)) claimPartsUptoCard

/-- THE SECOND FORM's CARD OF 'laganlaw05.ClaimCommon'. -/
def claimCommonUptoCard : Claim7 := { stood := { row := claimCommonUptoRow, standIns := [], harness := (true, "eea07cc34dd4f8ff0093a9ec986f7dca4c6619cad35284781fff088d8ff66766"), looks := true }, kinds := [], alts := [], laidByText := true, laidKinds := [.data, .data, .data, .data, .sentinel, .sentinel, .pinned], laidTests := true, laidLooks := .later }
def ClaimCommonUptoCardSaid : Prop := Claim7.holds Tryz.pinned (.plain (OpenSpec.upto claimCommonSpec)) claimCommonUptoCard

/-- THE SECOND FORM's CARD OF 'laganlaw05.ClaimSure'. -/
def claimSureUptoCard : Claim7 := { stood := { row := claimSureUptoRow, standIns := [], harness := (true, "eea07cc34dd4f8ff0093a9ec986f7dca4c6619cad35284781fff088d8ff66766"), looks := true }, kinds := [], alts := [], laidByText := true, laidKinds := [.data, .data, .data, .data, .sentinel, .sentinel, .pinned], laidTests := true, laidLooks := .later }
def ClaimSureUptoCardSaid : Prop := Claim7.holds Tryz.pinned (.plain (OpenSpec.upto claimSureSpec)) claimSureUptoCard

/-- THE SECOND FORM's CARD OF 'laganlaw05.ClaimMemory'. -/
def claimMemoryUptoCard : Claim7 := { stood := { row := claimMemoryUptoRow, standIns := [], harness := (true, "eea07cc34dd4f8ff0093a9ec986f7dca4c6619cad35284781fff088d8ff66766"), looks := true }, kinds := [], alts := [], laidByText := true, laidKinds := [.data, .data, .data, .data, .sentinel, .sentinel, .pinned], laidTests := true, laidLooks := .later }
def ClaimMemoryUptoCardSaid : Prop := Claim7.holds Tryz.pinned (.plain (OpenSpec.upto claimMemorySpec)) claimMemoryUptoCard

/-- THE SECOND FORM's CARD OF 'laganlaw05.ClaimFractions'. -/
def claimFractionsUptoCard : Claim7 := { stood := { row := claimFractionsUptoRow, standIns := [], harness := (true, "eea07cc34dd4f8ff0093a9ec986f7dca4c6619cad35284781fff088d8ff66766"), looks := true }, kinds := [], alts := [], laidByText := true, laidKinds := [.data, .data, .data, .data, .sentinel, .sentinel, .pinned], laidTests := true, laidLooks := .later }
def ClaimFractionsUptoCardSaid : Prop := Claim7.holds Tryz.pinned (.plain (OpenSpec.upto claimFractionsSpec)) claimFractionsUptoCard
end Rows
end Go.Proofs.YtmeomhojbobpbaaGreatDoor
