/-
  DERIVED. GIVEN WITH THE SEED: THE CARDS: each row of YtcallkljcjimiaaGreatDoorRows.lean that lists a variable, with what it lists TIED to the program's text (the seventh form; the later family's looks); each row that meets fmt, with fmt's text TOLD by the authors' own Lean function (tested against real Go, not proved from fmt's source: count such statements apart). THE CARD IS WHAT COUNTS. Prove the row's statement (the work); the ties are given (YtcallkljcjimiaaGreatDoorTie.lean); close each card by the builder's one call (the guide's Derived/Test/ToyasCard.lean, 'card_holds'). Laid BY PROGRAM, IN A SANDBOX (cutbox-door.mjs). By AI agents, Wed Nov 11 2026. No macro, syntax, notation, axiom, sorry.
-/
import Derived.Test.YtcallkljcjimiaaGreatDoorRows
import GoSem.ClaimSeven
namespace Go.Proofs.YtcallkljcjimiaaGreatDoor
namespace Rows

/-- THE TIED CARD OF 'prolixlaw07.WritePlain'. -/
def writePlainCard : Claim7 := { stood := { row := writePlainRow, standIns := [], harness := (true, "fad3c380a104931244d230f1146946e3e1eb2bd23f77545a4d87a53935907578"), looks := false }, kinds := [], alts := [], laidByText := true, laidKinds := [.data, .data, .data, .listed, .data, .data], laidTests := true, laidLooks := .later }
def WritePlainCardSaid : Prop := Claim7.holds Tryz.pinned (.plain (OpenSpec.ofChange writePlainSpec)) writePlainCard

/-- THE TIED CARD OF 'prolixlaw07.WritePuts'. -/
def writePutsCard : Claim7 := { stood := { row := writePutsRow, standIns := [], harness := (true, "fad3c380a104931244d230f1146946e3e1eb2bd23f77545a4d87a53935907578"), looks := false }, kinds := [], alts := [], laidByText := true, laidKinds := [.data, .data, .data, .listed, .data, .data], laidTests := true, laidLooks := .later }
def WritePutsCardSaid : Prop := Claim7.holds Tryz.pinned (.plain (OpenSpec.ofChange writePutsSpec)) writePutsCard

/-- THE TIED CARD OF 'prolixlaw07.WriteAgain'. -/
def writeAgainCard : Claim7 := { stood := { row := writeAgainRow, standIns := [], harness := (true, "fad3c380a104931244d230f1146946e3e1eb2bd23f77545a4d87a53935907578"), looks := false }, kinds := [], alts := [], laidByText := true, laidKinds := [.data, .data, .data, .listed, .data, .data], laidTests := true, laidLooks := .later }
def WriteAgainCardSaid : Prop := Claim7.holds Tryz.pinned (.plain (OpenSpec.ofChange writeAgainSpec)) writeAgainCard

/-- THE TIED CARD OF 'prolixlaw07.WriteArgs'. -/
def writeArgsCard : Claim7 := { stood := { row := writeArgsRow, standIns := [], harness := (true, "fad3c380a104931244d230f1146946e3e1eb2bd23f77545a4d87a53935907578"), looks := false }, kinds := [], alts := [], laidByText := true, laidKinds := [.data, .data, .data, .listed, .data, .data], laidTests := true, laidLooks := .later }
def WriteArgsCardSaid : Prop := Claim7.holds Tryz.pinned (.plain (OpenSpec.ofChange writeArgsSpec)) writeArgsCard

/-- THE TIED CARD OF 'prolixlaw07.WriteBack'. -/
def writeBackCard : Claim7 := { stood := { row := writeBackRow, standIns := [], harness := (true, "fad3c380a104931244d230f1146946e3e1eb2bd23f77545a4d87a53935907578"), looks := false }, kinds := [], alts := [], laidByText := true, laidKinds := [.data, .data, .data, .listed, .data, .data], laidTests := true, laidLooks := .later }
def WriteBackCardSaid : Prop := Claim7.holds Tryz.pinned (.plain (OpenSpec.ofChange writeBackSpec)) writeBackCard

/-- THE TIED CARD OF 'prolixlaw07.WriteCanonical'. -/
def writeCanonicalCard : Claim7 := { stood := { row := writeCanonicalRow, standIns := [], harness := (true, "fad3c380a104931244d230f1146946e3e1eb2bd23f77545a4d87a53935907578"), looks := false }, kinds := [], alts := [], laidByText := true, laidKinds := [.data, .data, .data, .listed, .data, .data], laidTests := true, laidLooks := .later }
def WriteCanonicalCardSaid : Prop := Claim7.holds Tryz.pinned (.plain (OpenSpec.ofChange writeCanonicalSpec)) writeCanonicalCard

/-- THE SECOND FORM's CARD OF 'prolixlaw07.WritePlain'. -/
def writePlainUptoCard : Claim7 := { stood := { row := writePlainUptoRow, standIns := [], harness := (true, "fad3c380a104931244d230f1146946e3e1eb2bd23f77545a4d87a53935907578"), looks := false }, kinds := [], alts := [], laidByText := true, laidKinds := [.data, .data, .data, .listed, .data, .data], laidTests := true, laidLooks := .later }
def WritePlainUptoCardSaid : Prop := Claim7.holds Tryz.pinned (.plain (OpenSpec.upto writePlainSpec)) writePlainUptoCard

/-- THE SECOND FORM's CARD OF 'prolixlaw07.WritePuts'. -/
def writePutsUptoCard : Claim7 := { stood := { row := writePutsUptoRow, standIns := [], harness := (true, "fad3c380a104931244d230f1146946e3e1eb2bd23f77545a4d87a53935907578"), looks := false }, kinds := [], alts := [], laidByText := true, laidKinds := [.data, .data, .data, .listed, .data, .data], laidTests := true, laidLooks := .later }
def WritePutsUptoCardSaid : Prop := Claim7.holds Tryz.pinned (.plain (OpenSpec.upto writePutsSpec)) writePutsUptoCard

/-- THE SECOND FORM's CARD OF 'prolixlaw07.WriteAgain'. -/
def writeAgainUptoCard : Claim7 := { stood := { row := writeAgainUptoRow, standIns := [], harness := (true, "fad3c380a104931244d230f1146946e3e1eb2bd23f77545a4d87a53935907578"), looks := false }, kinds := [], alts := [], laidByText := true, laidKinds := [.data, .data, .data, .listed, .data, .data], laidTests := true, laidLooks := .later }
def WriteAgainUptoCardSaid : Prop := Claim7.holds Tryz.pinned (.plain (OpenSpec.upto writeAgainSpec)) writeAgainUptoCard

/-- THE SECOND FORM's CARD OF 'prolixlaw07.WriteArgs'. -/
def writeArgsUptoCard : Claim7 := { stood := { row := writeArgsUptoRow, standIns := [], harness := (true, "fad3c380a104931244d230f1146946e3e1eb2bd23f77545a4d87a53935907578"), looks := false }, kinds := [], alts := [], laidByText := true, laidKinds := [.data, .data, .data, .listed, .data, .data], laidTests := true, laidLooks := .later }
def WriteArgsUptoCardSaid : Prop := Claim7.holds Tryz.pinned (.plain (OpenSpec.upto writeArgsSpec)) writeArgsUptoCard

/-- THE SECOND FORM's CARD OF 'prolixlaw07.WriteBack'. -/
def writeBackUptoCard : Claim7 := { stood := { row := writeBackUptoRow, standIns := [], harness := (true, "fad3c380a104931244d230f1146946e3e1eb2bd23f77545a4d87a53935907578"), looks := false }, kinds := [], alts := [], laidByText := true, laidKinds := [.data, .data, .data, .listed, .data, .data], laidTests := true, laidLooks := .later }
def WriteBackUptoCardSaid : Prop := Claim7.holds Tryz.pinned (.plain (OpenSpec.upto writeBackSpec)) writeBackUptoCard

/-- THE SECOND FORM's CARD OF 'prolixlaw07.WriteCanonical'. -/
def writeCanonicalUptoCard : Claim7 := { stood := { row := writeCanonicalUptoRow, standIns := [], harness := (true, "fad3c380a104931244d230f1146946e3e1eb2bd23f77545a4d87a53935907578"), looks := false }, kinds := [], alts := [], laidByText := true, laidKinds := [.data, .data, .data, .listed, .data, .data], laidTests := true, laidLooks := .later }
def WriteCanonicalUptoCardSaid : Prop := Claim7.holds Tryz.pinned (.plain (OpenSpec.upto writeCanonicalSpec)) writeCanonicalUptoCard
end Rows
end Go.Proofs.YtcallkljcjimiaaGreatDoor
