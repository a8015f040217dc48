/-
  DERIVED. GIVEN WITH THE SEED: THE CARDS: each row of YtmgidfndifhcoaaDoorRows.lean that lists a variable, with what it lists TIED to the program's text (the seventh form; the later family's looks); each row that meets fmt, with fmt's text TOLD by the authors' own Lean function (tested against real Go, not proved from fmt's source: count such statements apart). THE CARD IS WHAT COUNTS. Prove the row's statement (the work); the ties are given (YtmgidfndifhcoaaDoorTie.lean); close each card by the builder's one call (the guide's Derived/Test/ToyasCard.lean, 'card_holds'). Laid BY PROGRAM, IN A SANDBOX (cutbox-door.mjs). By AI agents, Wed Nov 11 2026. No macro, syntax, notation, axiom, sorry.
-/
import Derived.Test.YtmgidfndifhcoaaDoorRows
import GoSem.ClaimSeven
namespace Go.Proofs.YtmgidfndifhcoaaDoor
namespace Rows

/-- THE TIED CARD OF 'prolixlaw06.ReadBrackets'. -/
def readBracketsCard : Claim7 := { stood := { row := readBracketsRow, standIns := [], harness := (true, "4d3acb8dd855287128e7001e999e880813c52dd12e94de1ce8b162b28a1b4401"), looks := false }, kinds := [], alts := [], laidByText := true, laidKinds := [.listed, .data, .data], laidTests := true, laidLooks := .later }
def ReadBracketsCardSaid : Prop := Claim7.holds Tryd.pinned (.plain (OpenSpec.ofChange readBracketsSpec)) readBracketsCard

/-- THE TIED CARD OF 'prolixlaw06.ReadBehind'. -/
def readBehindCard : Claim7 := { stood := { row := readBehindRow, standIns := [], harness := (true, "4d3acb8dd855287128e7001e999e880813c52dd12e94de1ce8b162b28a1b4401"), looks := false }, kinds := [], alts := [], laidByText := true, laidKinds := [.listed, .data, .data], laidTests := true, laidLooks := .later }
def ReadBehindCardSaid : Prop := Claim7.holds Tryd.pinned (.plain (OpenSpec.ofChange readBehindSpec)) readBehindCard

/-- THE TIED CARD OF 'prolixlaw06.ReadRight'. -/
def readRightCard : Claim7 := { stood := { row := readRightRow, standIns := [], harness := (true, "4d3acb8dd855287128e7001e999e880813c52dd12e94de1ce8b162b28a1b4401"), looks := false }, kinds := [], alts := [], laidByText := true, laidKinds := [.listed, .data, .data], laidTests := true, laidLooks := .later }
def ReadRightCardSaid : Prop := Claim7.holds Tryd.pinned (.plain (OpenSpec.ofChange readRightSpec)) readRightCard

/-- THE TIED CARD OF 'prolixlaw06.ReadInts'. -/
def readIntsCard : Claim7 := { stood := { row := readIntsRow, standIns := [], harness := (true, "4d3acb8dd855287128e7001e999e880813c52dd12e94de1ce8b162b28a1b4401"), looks := false }, kinds := [], alts := [], laidByText := true, laidKinds := [.data, .data, .data, .listed, .data, .data], laidTests := true, laidLooks := .later }
def ReadIntsCardSaid : Prop := Claim7.holds Tryd.pinned (.plain (OpenSpec.ofChange readIntsSpec)) readIntsCard

/-- THE SECOND FORM's CARD OF 'prolixlaw06.ReadBrackets'. -/
def readBracketsUptoCard : Claim7 := { stood := { row := readBracketsUptoRow, standIns := [], harness := (true, "4d3acb8dd855287128e7001e999e880813c52dd12e94de1ce8b162b28a1b4401"), looks := false }, kinds := [], alts := [], laidByText := true, laidKinds := [.listed, .data, .data], laidTests := true, laidLooks := .later }
def ReadBracketsUptoCardSaid : Prop := Claim7.holds Tryd.pinned (.plain (OpenSpec.upto readBracketsSpec)) readBracketsUptoCard

/-- THE SECOND FORM's CARD OF 'prolixlaw06.ReadBehind'. -/
def readBehindUptoCard : Claim7 := { stood := { row := readBehindUptoRow, standIns := [], harness := (true, "4d3acb8dd855287128e7001e999e880813c52dd12e94de1ce8b162b28a1b4401"), looks := false }, kinds := [], alts := [], laidByText := true, laidKinds := [.listed, .data, .data], laidTests := true, laidLooks := .later }
def ReadBehindUptoCardSaid : Prop := Claim7.holds Tryd.pinned (.plain (OpenSpec.upto readBehindSpec)) readBehindUptoCard

/-- THE SECOND FORM's CARD OF 'prolixlaw06.ReadRight'. -/
def readRightUptoCard : Claim7 := { stood := { row := readRightUptoRow, standIns := [], harness := (true, "4d3acb8dd855287128e7001e999e880813c52dd12e94de1ce8b162b28a1b4401"), looks := false }, kinds := [], alts := [], laidByText := true, laidKinds := [.listed, .data, .data], laidTests := true, laidLooks := .later }
def ReadRightUptoCardSaid : Prop := Claim7.holds Tryd.pinned (.plain (OpenSpec.upto readRightSpec)) readRightUptoCard

/-- THE SECOND FORM's CARD OF 'prolixlaw06.ReadInts'. -/
def readIntsUptoCard : Claim7 := { stood := { row := readIntsUptoRow, standIns := [], harness := (true, "4d3acb8dd855287128e7001e999e880813c52dd12e94de1ce8b162b28a1b4401"), looks := false }, kinds := [], alts := [], laidByText := true, laidKinds := [.data, .data, .data, .listed, .data, .data], laidTests := true, laidLooks := .later }
def ReadIntsUptoCardSaid : Prop := Claim7.holds Tryd.pinned (.plain (OpenSpec.upto readIntsSpec)) readIntsUptoCard
end Rows
end Go.Proofs.YtmgidfndifhcoaaDoor
