/-
  DERIVED. GIVEN WITH THE SEED: THE CARDS: each row of YtanfllomeheiiaaGreatDoorRows.lean that lists a variable, with what it lists TIED to the program's text (the seventh form; the later family's looks); each row that meets fmt, with fmt's text TOLD by the authors' own Lean function (tested against real Go, not proved from fmt's source: count such statements apart). THE CARD IS WHAT COUNTS. Prove the row's statement (the work); the ties are given (YtanfllomeheiiaaGreatDoorTie.lean); close each card by the builder's one call (the guide's Derived/Test/ToyasCard.lean, 'card_holds'). Laid BY PROGRAM, IN A SANDBOX (cutbox-door.mjs). By AI agents, Wed Nov 11 2026. No macro, syntax, notation, axiom, sorry.
-/
import Derived.Test.YtanfllomeheiiaaGreatDoorRows
import GoSem.ClaimSeven
namespace Go.Proofs.YtanfllomeheiiaaGreatDoor
namespace Rows

/-- THE TIED CARD OF 'forebearlaw19.BlameParts'. -/
def blamePartsCard : Claim7 := { stood := { row := blamePartsRow, standIns := [], harness := (true, "311f86db7565f8741f40bb5687b8cfd667c335876c71152559821d41a12fbb7d"), looks := false }, kinds := [], alts := [], laidByText := true, laidKinds := [.data, .data, .data], laidTests := true, laidLooks := .later }
def BlamePartsCardSaid : Prop := Claim7.holds Tryz.pinned (.plain (OpenSpec.ofChange blamePartsSpec)) blamePartsCard

/-- THE SECOND FORM's CARD OF 'forebearlaw19.BlameParts'. -/
def blamePartsUptoCard : Claim7 := { stood := { row := blamePartsUptoRow, standIns := [], harness := (true, "311f86db7565f8741f40bb5687b8cfd667c335876c71152559821d41a12fbb7d"), looks := false }, kinds := [], alts := [], laidByText := true, laidKinds := [.data, .data, .data], laidTests := true, laidLooks := .later }
def BlamePartsUptoCardSaid : Prop := Claim7.holds Tryz.pinned (.plain (OpenSpec.upto blamePartsSpec)) blamePartsUptoCard
end Rows
end Go.Proofs.YtanfllomeheiiaaGreatDoor
