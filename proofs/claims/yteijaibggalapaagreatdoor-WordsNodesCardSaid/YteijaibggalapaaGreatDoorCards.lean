/-
  DERIVED. GIVEN WITH THE SEED: THE CARDS: each row of YteijaibggalapaaGreatDoorRows.lean that lists a variable, with what it lists TIED to the program's text (the seventh form; the later family's looks); each row that meets fmt, with fmt's text TOLD by the authors' own Lean function (tested against real Go, not proved from fmt's source: count such statements apart). THE CARD IS WHAT COUNTS. Prove the row's statement (the work); the ties are given (YteijaibggalapaaGreatDoorTie.lean); close each card by the builder's one call (the guide's Derived/Test/ToyasCard.lean, 'card_holds'). Laid BY PROGRAM, IN A SANDBOX (cutbox-door.mjs). By AI agents, Wed Nov 11 2026. No macro, syntax, notation, axiom, sorry.
-/
import Derived.Test.YteijaibggalapaaGreatDoorRows
import GoSem.ClaimSeven
namespace Go.Proofs.YteijaibggalapaaGreatDoor
namespace Rows

/-- THE TIED CARD OF 'rivuletlaw32.WordsJoin'. -/
def wordsJoinCard : Claim7 := { stood := { row := wordsJoinRow, standIns := [], harness := (true, "85fffb9ea720e25cdc8f73ee2a73a4193cb5c46cfdd76d6d2119028e24e63994"), looks := false }, kinds := [], alts := [], laidByText := true, laidKinds := [.data, .data, .data], laidTests := true, laidLooks := .later }
def WordsJoinCardSaid : Prop := Claim7.holds Tryz.pinned (.plain (OpenSpec.ofChange wordsJoinSpec)) wordsJoinCard

/-- THE TIED CARD OF 'rivuletlaw32.WordsNodes'. -/
def wordsNodesCard : Claim7 := { stood := { row := wordsNodesRow, standIns := [], harness := (true, "85fffb9ea720e25cdc8f73ee2a73a4193cb5c46cfdd76d6d2119028e24e63994"), looks := false }, kinds := [], alts := [], laidByText := true, laidKinds := [.data, .data, .data], laidTests := true, laidLooks := .later }
def WordsNodesCardSaid : Prop := Claim7.holds Tryz.pinned (.plain (OpenSpec.ofChange wordsNodesSpec)) wordsNodesCard

/-- THE SECOND FORM's CARD OF 'rivuletlaw32.WordsJoin'. -/
def wordsJoinUptoCard : Claim7 := { stood := { row := wordsJoinUptoRow, standIns := [], harness := (true, "85fffb9ea720e25cdc8f73ee2a73a4193cb5c46cfdd76d6d2119028e24e63994"), looks := false }, kinds := [], alts := [], laidByText := true, laidKinds := [.data, .data, .data], laidTests := true, laidLooks := .later }
def WordsJoinUptoCardSaid : Prop := Claim7.holds Tryz.pinned (.plain (OpenSpec.upto wordsJoinSpec)) wordsJoinUptoCard

/-- THE SECOND FORM's CARD OF 'rivuletlaw32.WordsNodes'. -/
def wordsNodesUptoCard : Claim7 := { stood := { row := wordsNodesUptoRow, standIns := [], harness := (true, "85fffb9ea720e25cdc8f73ee2a73a4193cb5c46cfdd76d6d2119028e24e63994"), looks := false }, kinds := [], alts := [], laidByText := true, laidKinds := [.data, .data, .data], laidTests := true, laidLooks := .later }
def WordsNodesUptoCardSaid : Prop := Claim7.holds Tryz.pinned (.plain (OpenSpec.upto wordsNodesSpec)) wordsNodesUptoCard
end Rows
end Go.Proofs.YteijaibggalapaaGreatDoor
