/-
  DERIVED. GIVEN WITH THE SEED: THE CARDS: each row of YtfgfoofojofnmaaDoorRows.lean that lists a variable, with what it lists TIED to the program's text (the seventh form; the later family's looks); each row that meets fmt, with fmt's text TOLD by the authors' own Lean function (tested against real Go, not proved from fmt's source: count such statements apart). THE CARD IS WHAT COUNTS. Prove the row's statement (the work); the ties are given (YtfgfoofojofnmaaDoorTie.lean); close each card by the builder's one call (the guide's Derived/Test/ToyasCard.lean, 'card_holds'). Laid BY PROGRAM, IN A SANDBOX (cutbox-door.mjs). By AI agents, Wed Nov 11 2026. No macro, syntax, notation, axiom, sorry.
-/
import Derived.Test.YtfgfoofojofnmaaDoorRows
import GoSem.ClaimSeven
namespace Go.Proofs.YtfgfoofojofnmaaDoor
namespace Rows

/-- THE TIED CARD OF 'forebearlaw22.LexScans'. -/
def lexScansCard : Claim7 := { stood := { row := lexScansRow, standIns := [], harness := (true, "47fb28d83664f04bfec82331bc2c454367bae952f1f1b2359eb896ec04a4a0e8"), looks := true }, kinds := [], alts := [], laidByText := true, laidKinds := [.data, .data, .data, .sentinel, .sentinel], laidTests := true, laidLooks := .later }
def LexScansCardSaid : Prop := Claim7.holds Tryd.pinned (.plain (OpenSpec.ofChange lexScansSpec)) lexScansCard

/-- THE TIED CARD OF 'forebearlaw22.LexBack'. -/
def lexBackCard : Claim7 := { stood := { row := lexBackRow, standIns := [], harness := (true, "47fb28d83664f04bfec82331bc2c454367bae952f1f1b2359eb896ec04a4a0e8"), looks := true }, kinds := [], alts := [], laidByText := true, laidKinds := [.data, .data, .data, .sentinel, .sentinel], laidTests := true, laidLooks := .later }
def LexBackCardSaid : Prop := Claim7.holds Tryd.pinned (.plain (OpenSpec.ofChange lexBackSpec)) lexBackCard

/-- THE TIED CARD OF 'forebearlaw22.LexPlaces'. -/
def lexPlacesCard : Claim7 := { stood := { row := lexPlacesRow, standIns := [], harness := (true, "47fb28d83664f04bfec82331bc2c454367bae952f1f1b2359eb896ec04a4a0e8"), looks := true }, kinds := [], alts := [], laidByText := true, laidKinds := [.data, .data, .data, .sentinel, .sentinel], laidTests := true, laidLooks := .later }
def LexPlacesCardSaid : Prop := Claim7.holds Tryd.pinned (.plain (OpenSpec.ofChange lexPlacesSpec)) lexPlacesCard

/-- THE TIED CARD OF 'forebearlaw24.CheckTells'. -/
def checkTellsCard : Claim7 := { stood := { row := checkTellsRow, standIns := [], harness := (true, "47fb28d83664f04bfec82331bc2c454367bae952f1f1b2359eb896ec04a4a0e8"), looks := true }, kinds := [], alts := [], laidByText := true, laidKinds := [.data, .data, .data, .sentinel, .sentinel], laidTests := true, laidLooks := .later }
def CheckTellsCardSaid : Prop := Claim7.holds Tryd.pinned (.plain (OpenSpec.ofChange checkTellsSpec)) checkTellsCard

/-- THE TIED CARD OF 'forebearlaw24.CheckParts'. -/
def checkPartsCard : Claim7 := { stood := { row := checkPartsRow, standIns := [], harness := (true, "47fb28d83664f04bfec82331bc2c454367bae952f1f1b2359eb896ec04a4a0e8"), looks := true }, kinds := [], alts := [], laidByText := true, laidKinds := [.data, .data, .data, .sentinel, .sentinel], laidTests := true, laidLooks := .later }
def CheckPartsCardSaid : Prop := Claim7.holds Tryd.pinned (.plain (OpenSpec.ofChange checkPartsSpec)) checkPartsCard

/-- THE TIED CARD OF 'forebearlaw23.ParseReads'. -/
def parseReadsCard : Claim7 := { stood := { row := parseReadsRow, standIns := [], harness := (true, "47fb28d83664f04bfec82331bc2c454367bae952f1f1b2359eb896ec04a4a0e8"), looks := true }, kinds := [], alts := [], laidByText := true, laidKinds := [.data, .data, .data, .sentinel, .sentinel], laidTests := true, laidLooks := .later }
def ParseReadsCardSaid : Prop := Claim7.holds Tryd.pinned (.plain (OpenSpec.ofChange parseReadsSpec)) parseReadsCard

/-- THE TIED CARD OF 'forebearlaw23.ParseBack'. -/
def parseBackCard : Claim7 := { stood := { row := parseBackRow, standIns := [], harness := (true, "47fb28d83664f04bfec82331bc2c454367bae952f1f1b2359eb896ec04a4a0e8"), looks := true }, kinds := [], alts := [], laidByText := true, laidKinds := [.data, .data, .data, .sentinel, .sentinel], laidTests := true, laidLooks := .later }
def ParseBackCardSaid : Prop := Claim7.holds Tryd.pinned (.plain (OpenSpec.ofChange parseBackSpec)) parseBackCard

/-- THE TIED CARD OF 'forebearlaw23.ParseDeep'. -/
def parseDeepCard : Claim7 := { stood := { row := parseDeepRow, standIns := [], harness := (true, "47fb28d83664f04bfec82331bc2c454367bae952f1f1b2359eb896ec04a4a0e8"), looks := true }, kinds := [], alts := [], laidByText := true, laidKinds := [.data, .data, .data, .sentinel, .sentinel], laidTests := true, laidLooks := .later }
def ParseDeepCardSaid : Prop := Claim7.holds Tryd.pinned (.plain (OpenSpec.ofChange parseDeepSpec)) parseDeepCard

/-- THE TIED CARD OF 'forebearlaw23.ParseBrackets'. -/
def parseBracketsCard : Claim7 := { stood := { row := parseBracketsRow, standIns := [], harness := (true, "47fb28d83664f04bfec82331bc2c454367bae952f1f1b2359eb896ec04a4a0e8"), looks := true }, kinds := [], alts := [], laidByText := true, laidKinds := [.data, .data, .data, .sentinel, .sentinel], laidTests := true, laidLooks := .later }
def ParseBracketsCardSaid : Prop := Claim7.holds Tryd.pinned (.plain (OpenSpec.ofChange parseBracketsSpec)) parseBracketsCard

/-- THE TIED CARD OF 'forebearlaw24.CheckShown'. -/
def checkShownCard : Claim7 := { stood := { row := checkShownRow, standIns := [], harness := (true, "47fb28d83664f04bfec82331bc2c454367bae952f1f1b2359eb896ec04a4a0e8"), looks := true }, kinds := [], alts := [], laidByText := true, laidKinds := [.data, .data, .data, .sentinel, .sentinel], laidTests := true, laidLooks := .later }
def CheckShownCardSaid : Prop := Claim7.holds Tryd.pinned (.plain (OpenSpec.ofChange checkShownSpec)) checkShownCard

/-- THE TIED CARD OF 'forebearlaw24.CheckFits'. -/
def checkFitsCard : Claim7 := { stood := { row := checkFitsRow, standIns := [], harness := (true, "47fb28d83664f04bfec82331bc2c454367bae952f1f1b2359eb896ec04a4a0e8"), looks := true }, kinds := [], alts := [], laidByText := true, laidKinds := [.data, .data, .data, .sentinel, .sentinel], laidTests := true, laidLooks := .later }
def CheckFitsCardSaid : Prop := Claim7.holds Tryd.pinned (.plain (OpenSpec.ofChange checkFitsSpec)) checkFitsCard

/-- THE SECOND FORM's CARD OF 'forebearlaw22.LexScans'. -/
def lexScansUptoCard : Claim7 := { stood := { row := lexScansUptoRow, standIns := [], harness := (true, "47fb28d83664f04bfec82331bc2c454367bae952f1f1b2359eb896ec04a4a0e8"), looks := true }, kinds := [], alts := [], laidByText := true, laidKinds := [.data, .data, .data, .sentinel, .sentinel], laidTests := true, laidLooks := .later }
def LexScansUptoCardSaid : Prop := Claim7.holds Tryd.pinned (.plain (OpenSpec.upto lexScansSpec)) lexScansUptoCard

/-- THE SECOND FORM's CARD OF 'forebearlaw22.LexBack'. -/
def lexBackUptoCard : Claim7 := { stood := { row := lexBackUptoRow, standIns := [], harness := (true, "47fb28d83664f04bfec82331bc2c454367bae952f1f1b2359eb896ec04a4a0e8"), looks := true }, kinds := [], alts := [], laidByText := true, laidKinds := [.data, .data, .data, .sentinel, .sentinel], laidTests := true, laidLooks := .later }
def LexBackUptoCardSaid : Prop := Claim7.holds Tryd.pinned (.plain (OpenSpec.upto lexBackSpec)) lexBackUptoCard

/-- THE SECOND FORM's CARD OF 'forebearlaw22.LexPlaces'. -/
def lexPlacesUptoCard : Claim7 := { stood := { row := lexPlacesUptoRow, standIns := [], harness := (true, "47fb28d83664f04bfec82331bc2c454367bae952f1f1b2359eb896ec04a4a0e8"), looks := true }, kinds := [], alts := [], laidByText := true, laidKinds := [.data, .data, .data, .sentinel, .sentinel], laidTests := true, laidLooks := .later }
def LexPlacesUptoCardSaid : Prop := Claim7.holds Tryd.pinned (.plain (OpenSpec.upto lexPlacesSpec)) lexPlacesUptoCard

/-- THE SECOND FORM's CARD OF 'forebearlaw24.CheckTells'. -/
def checkTellsUptoCard : Claim7 := { stood := { row := checkTellsUptoRow, standIns := [], harness := (true, "47fb28d83664f04bfec82331bc2c454367bae952f1f1b2359eb896ec04a4a0e8"), looks := true }, kinds := [], alts := [], laidByText := true, laidKinds := [.data, .data, .data, .sentinel, .sentinel], laidTests := true, laidLooks := .later }
def CheckTellsUptoCardSaid : Prop := Claim7.holds Tryd.pinned (.plain (OpenSpec.upto checkTellsSpec)) checkTellsUptoCard

/-- THE SECOND FORM's CARD OF 'forebearlaw24.CheckParts'. -/
def checkPartsUptoCard : Claim7 := { stood := { row := checkPartsUptoRow, standIns := [], harness := (true, "47fb28d83664f04bfec82331bc2c454367bae952f1f1b2359eb896ec04a4a0e8"), looks := true }, kinds := [], alts := [], laidByText := true, laidKinds := [.data, .data, .data, .sentinel, .sentinel], laidTests := true, laidLooks := .later }
def CheckPartsUptoCardSaid : Prop := Claim7.holds Tryd.pinned (.plain (OpenSpec.upto checkPartsSpec)) checkPartsUptoCard

/-- THE SECOND FORM's CARD OF 'forebearlaw23.ParseReads'. -/
def parseReadsUptoCard : Claim7 := { stood := { row := parseReadsUptoRow, standIns := [], harness := (true, "47fb28d83664f04bfec82331bc2c454367bae952f1f1b2359eb896ec04a4a0e8"), looks := true }, kinds := [], alts := [], laidByText := true, laidKinds := [.data, .data, .data, .sentinel, .sentinel], laidTests := true, laidLooks := .later }
def ParseReadsUptoCardSaid : Prop := Claim7.holds Tryd.pinned (.plain (OpenSpec.upto parseReadsSpec)) parseReadsUptoCard

/-- THE SECOND FORM's CARD OF 'forebearlaw23.ParseBack'. -/
def parseBackUptoCard : Claim7 := { stood := { row := parseBackUptoRow, standIns := [], harness := (true, "47fb28d83664f04bfec82331bc2c454367bae952f1f1b2359eb896ec04a4a0e8"), looks := true }, kinds := [], alts := [], laidByText := true, laidKinds := [.data, .data, .data, .sentinel, .sentinel], laidTests := true, laidLooks := .later }
def ParseBackUptoCardSaid : Prop := Claim7.holds Tryd.pinned (.plain (OpenSpec.upto parseBackSpec)) parseBackUptoCard

/-- THE SECOND FORM's CARD OF 'forebearlaw23.ParseDeep'. -/
def parseDeepUptoCard : Claim7 := { stood := { row := parseDeepUptoRow, standIns := [], harness := (true, "47fb28d83664f04bfec82331bc2c454367bae952f1f1b2359eb896ec04a4a0e8"), looks := true }, kinds := [], alts := [], laidByText := true, laidKinds := [.data, .data, .data, .sentinel, .sentinel], laidTests := true, laidLooks := .later }
def ParseDeepUptoCardSaid : Prop := Claim7.holds Tryd.pinned (.plain (OpenSpec.upto parseDeepSpec)) parseDeepUptoCard

/-- THE SECOND FORM's CARD OF 'forebearlaw23.ParseBrackets'. -/
def parseBracketsUptoCard : Claim7 := { stood := { row := parseBracketsUptoRow, standIns := [], harness := (true, "47fb28d83664f04bfec82331bc2c454367bae952f1f1b2359eb896ec04a4a0e8"), looks := true }, kinds := [], alts := [], laidByText := true, laidKinds := [.data, .data, .data, .sentinel, .sentinel], laidTests := true, laidLooks := .later }
def ParseBracketsUptoCardSaid : Prop := Claim7.holds Tryd.pinned (.plain (OpenSpec.upto parseBracketsSpec)) parseBracketsUptoCard

/-- THE SECOND FORM's CARD OF 'forebearlaw24.CheckShown'. -/
def checkShownUptoCard : Claim7 := { stood := { row := checkShownUptoRow, standIns := [], harness := (true, "47fb28d83664f04bfec82331bc2c454367bae952f1f1b2359eb896ec04a4a0e8"), looks := true }, kinds := [], alts := [], laidByText := true, laidKinds := [.data, .data, .data, .sentinel, .sentinel], laidTests := true, laidLooks := .later }
def CheckShownUptoCardSaid : Prop := Claim7.holds Tryd.pinned (.plain (OpenSpec.upto checkShownSpec)) checkShownUptoCard

/-- THE SECOND FORM's CARD OF 'forebearlaw24.CheckFits'. -/
def checkFitsUptoCard : Claim7 := { stood := { row := checkFitsUptoRow, standIns := [], harness := (true, "47fb28d83664f04bfec82331bc2c454367bae952f1f1b2359eb896ec04a4a0e8"), looks := true }, kinds := [], alts := [], laidByText := true, laidKinds := [.data, .data, .data, .sentinel, .sentinel], laidTests := true, laidLooks := .later }
def CheckFitsUptoCardSaid : Prop := Claim7.holds Tryd.pinned (.plain (OpenSpec.upto checkFitsSpec)) checkFitsUptoCard
end Rows
end Go.Proofs.YtfgfoofojofnmaaDoor
