/-
  DERIVED. GIVEN WITH THE SEED: THE CARDS: each row of YtpiekfkkhgighaaDoorRows.lean that lists a variable, with what it lists TIED to the program's text (the seventh form; the later family's looks); each row that meets fmt, with fmt's text TOLD by the authors' own Lean function (tested against real Go, not proved from fmt's source: count such statements apart). THE CARD IS WHAT COUNTS. Prove the row's statement (the work); the ties are given (YtpiekfkkhgighaaDoorTie.lean); close each card by the builder's one call (the guide's Derived/Test/ToyasCard.lean, 'card_holds'). Laid BY PROGRAM, IN A SANDBOX (cutbox-door.mjs). By AI agents, Wed Nov 11 2026. No macro, syntax, notation, axiom, sorry.
-/
import Derived.Test.YtpiekfkkhgighaaDoorRows
import GoSem.ClaimSeven
namespace Go.Proofs.YtpiekfkkhgighaaDoor
namespace Rows

/-- THE TIED CARD OF 'prolixlaw05.OpsPlay'. -/
def opsPlayCard : Claim7 := { stood := { row := opsPlayRow, standIns := [], harness := (true, "61343dae721178565d000386b4c67501d50142dc07989e2c91027d694e9845a7"), looks := false }, kinds := [], alts := [], laidByText := true, laidKinds := [.listed, .data, .data], laidTests := true, laidLooks := .later }
def OpsPlayCardSaid : Prop := Claim7.holds Tryd.pinned (.plain (OpenSpec.ofChange opsPlaySpec)) opsPlayCard

/-- THE TIED CARD OF 'prolixlaw25.StatsBack'. -/
def statsBackCard : Claim7 := { stood := { row := statsBackRow, standIns := [], harness := (true, "61343dae721178565d000386b4c67501d50142dc07989e2c91027d694e9845a7"), looks := false }, kinds := [], alts := [], laidByText := true, laidKinds := [.data, .data, .data, .data, .pinned], laidTests := true, laidLooks := .later }
def StatsBackCardSaid : Prop := Claim7.holds Tryd.pinned (.plain (OpenSpec.ofChange statsBackSpec)) statsBackCard

/-- THE TIED CARD OF 'prolixlaw25.StatsParts'. -/
def statsPartsCard : Claim7 := { stood := { row := statsPartsRow, standIns := [], harness := (true, "61343dae721178565d000386b4c67501d50142dc07989e2c91027d694e9845a7"), looks := false }, kinds := [], alts := [], laidByText := true, laidKinds := [.data, .data, .data, .data, .pinned], laidTests := true, laidLooks := .later }
def StatsPartsCardSaid : Prop := Claim7.holds Tryd.pinned (.plain (OpenSpec.ofChange statsPartsSpec)) statsPartsCard

/-- THE TIED CARD OF 'prolixlaw25.StatsFits'. -/
def statsFitsCard : Claim7 := { stood := { row := statsFitsRow, standIns := [], harness := (true, "61343dae721178565d000386b4c67501d50142dc07989e2c91027d694e9845a7"), looks := false }, kinds := [], alts := [], laidByText := true, laidKinds := [.data, .data, .data, .data, .pinned], laidTests := true, laidLooks := .later }
def StatsFitsCardSaid : Prop := Claim7.holds Tryd.pinned (.plain (OpenSpec.ofChange statsFitsSpec)) statsFitsCard

/-- THE SECOND FORM's CARD OF 'prolixlaw05.OpsPlay'. -/
def opsPlayUptoCard : Claim7 := { stood := { row := opsPlayUptoRow, standIns := [], harness := (true, "61343dae721178565d000386b4c67501d50142dc07989e2c91027d694e9845a7"), looks := false }, kinds := [], alts := [], laidByText := true, laidKinds := [.listed, .data, .data], laidTests := true, laidLooks := .later }
def OpsPlayUptoCardSaid : Prop := Claim7.holds Tryd.pinned (.plain (OpenSpec.upto opsPlaySpec)) opsPlayUptoCard

/-- THE SECOND FORM's CARD OF 'prolixlaw25.StatsBack'. -/
def statsBackUptoCard : Claim7 := { stood := { row := statsBackUptoRow, standIns := [], harness := (true, "61343dae721178565d000386b4c67501d50142dc07989e2c91027d694e9845a7"), looks := false }, kinds := [], alts := [], laidByText := true, laidKinds := [.data, .data, .data, .data, .pinned], laidTests := true, laidLooks := .later }
def StatsBackUptoCardSaid : Prop := Claim7.holds Tryd.pinned (.plain (OpenSpec.upto statsBackSpec)) statsBackUptoCard

/-- THE SECOND FORM's CARD OF 'prolixlaw25.StatsParts'. -/
def statsPartsUptoCard : Claim7 := { stood := { row := statsPartsUptoRow, standIns := [], harness := (true, "61343dae721178565d000386b4c67501d50142dc07989e2c91027d694e9845a7"), looks := false }, kinds := [], alts := [], laidByText := true, laidKinds := [.data, .data, .data, .data, .pinned], laidTests := true, laidLooks := .later }
def StatsPartsUptoCardSaid : Prop := Claim7.holds Tryd.pinned (.plain (OpenSpec.upto statsPartsSpec)) statsPartsUptoCard

/-- THE SECOND FORM's CARD OF 'prolixlaw25.StatsFits'. -/
def statsFitsUptoCard : Claim7 := { stood := { row := statsFitsUptoRow, standIns := [], harness := (true, "61343dae721178565d000386b4c67501d50142dc07989e2c91027d694e9845a7"), looks := false }, kinds := [], alts := [], laidByText := true, laidKinds := [.data, .data, .data, .data, .pinned], laidTests := true, laidLooks := .later }
def StatsFitsUptoCardSaid : Prop := Claim7.holds Tryd.pinned (.plain (OpenSpec.upto statsFitsSpec)) statsFitsUptoCard
end Rows
end Go.Proofs.YtpiekfkkhgighaaDoor
