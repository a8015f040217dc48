/-
  DERIVED. GIVEN WITH THE SEED: THE CARDS: each row of YtiffopheamnngaaGreatDoorRows.lean that lists a variable, with what it lists TIED to the program's text (the seventh form; the later family's looks); each row that meets fmt, with fmt's text TOLD by the authors' own Lean function (tested against real Go, not proved from fmt's source: count such statements apart). THE CARD IS WHAT COUNTS. Prove the row's statement (the work); the ties are given (YtiffopheamnngaaGreatDoorTie.lean); close each card by the builder's one call (the guide's Derived/Test/ToyasCard.lean, 'card_holds'). Laid BY PROGRAM, IN A SANDBOX (cutbox-door.mjs). By AI agents, Wed Nov 11 2026. No macro, syntax, notation, axiom, sorry.
-/
import Derived.Test.YtiffopheamnngaaGreatDoorRows
import GoSem.ClaimSeven
namespace Go.Proofs.YtiffopheamnngaaGreatDoor
namespace Rows

/-- THE TIED CARD OF 'prolixlaw06.ReadTexts'. -/
def readTextsCard : Claim7 := { stood := { row := readTextsRow, standIns := [], harness := (true, "1a92a652b579b61904e34e96108d01feb10a0ebb5362414653ec4a157f1b1034"), looks := false }, kinds := [], alts := [], laidByText := true, laidKinds := [.listed, .data, .data], laidTests := true, laidLooks := .later }
def ReadTextsCardSaid : Prop := Claim7.holds Tryz.pinned (.plain (OpenSpec.ofChange readTextsSpec)) readTextsCard

/-- THE SECOND FORM's CARD OF 'prolixlaw06.ReadTexts'. -/
def readTextsUptoCard : Claim7 := { stood := { row := readTextsUptoRow, standIns := [], harness := (true, "1a92a652b579b61904e34e96108d01feb10a0ebb5362414653ec4a157f1b1034"), looks := false }, kinds := [], alts := [], laidByText := true, laidKinds := [.listed, .data, .data], laidTests := true, laidLooks := .later }
def ReadTextsUptoCardSaid : Prop := Claim7.holds Tryz.pinned (.plain (OpenSpec.upto readTextsSpec)) readTextsUptoCard
end Rows
end Go.Proofs.YtiffopheamnngaaGreatDoor
