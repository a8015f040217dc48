/-
  DERIVED. GIVEN WITH THE SEED: THE CARDS: each row of YtojelojbhcmiaaaDoorRows.lean that lists a variable, with what it lists TIED to the program's text (the seventh form; the later family's looks); each row that meets fmt, with fmt's text TOLD by the authors' own Lean function (tested against real Go, not proved from fmt's source: count such statements apart). THE CARD IS WHAT COUNTS. Prove the row's statement (the work); the ties are given (YtojelojbhcmiaaaDoorTie.lean); close each card by the builder's one call (the guide's Derived/Test/ToyasCard.lean, 'card_holds'). Laid BY PROGRAM, IN A SANDBOX (cutbox-door.mjs). By AI agents, Wed Nov 11 2026. No macro, syntax, notation, axiom, sorry.
-/
import Derived.Test.YtojelojbhcmiaaaDoorRows
import GoSem.ClaimSeven
namespace Go.Proofs.YtojelojbhcmiaaaDoor
namespace Rows

/-- THE TIED CARD OF 'prolixlaw05.OpsLast'. -/
def opsLastCard : Claim7 := { stood := { row := opsLastRow, standIns := [], harness := (true, "e6f707e3bd7d68471d3158e4c9c29c40c06c23a2566eea790abe730a02af37c9"), looks := false }, kinds := [], alts := [], laidByText := true, laidKinds := [.listed, .data, .data], laidTests := true, laidLooks := .later }
def OpsLastCardSaid : Prop := Claim7.holds Tryd.pinned (.plain (OpenSpec.ofChange opsLastSpec)) opsLastCard

/-- THE TIED CARD OF 'prolixlaw05.OpsBack'. -/
def opsBackCard : Claim7 := { stood := { row := opsBackRow, standIns := [], harness := (true, "e6f707e3bd7d68471d3158e4c9c29c40c06c23a2566eea790abe730a02af37c9"), looks := false }, kinds := [], alts := [], laidByText := true, laidKinds := [.listed, .data, .data], laidTests := true, laidLooks := .later }
def OpsBackCardSaid : Prop := Claim7.holds Tryd.pinned (.plain (OpenSpec.ofChange opsBackSpec)) opsBackCard

/-- THE TIED CARD OF 'prolixlaw05.OpsApart'. -/
def opsApartCard : Claim7 := { stood := { row := opsApartRow, standIns := [], harness := (true, "e6f707e3bd7d68471d3158e4c9c29c40c06c23a2566eea790abe730a02af37c9"), looks := false }, kinds := [], alts := [], laidByText := true, laidKinds := [.listed, .data, .data], laidTests := true, laidLooks := .later }
def OpsApartCardSaid : Prop := Claim7.holds Tryd.pinned (.plain (OpenSpec.ofChange opsApartSpec)) opsApartCard

/-- THE TIED CARD OF 'prolixlaw05.OpsPlay'. -/
def opsPlayCard : Claim7 := { stood := { row := opsPlayRow, standIns := [], harness := (true, "e6f707e3bd7d68471d3158e4c9c29c40c06c23a2566eea790abe730a02af37c9"), looks := false }, kinds := [], alts := [], laidByText := true, laidKinds := [.listed, .data, .data], laidTests := true, laidLooks := .later }
def OpsPlayCardSaid : Prop := Claim7.holds Tryd.pinned (.plain (OpenSpec.ofChange opsPlaySpec)) opsPlayCard

/-- THE TIED CARD OF 'prolixlaw25.StatsBack'. -/
def statsBackCard : Claim7 := { stood := { row := statsBackRow, standIns := [], harness := (true, "e6f707e3bd7d68471d3158e4c9c29c40c06c23a2566eea790abe730a02af37c9"), looks := false }, kinds := [], alts := [], laidByText := true, laidKinds := [.data, .data, .data, .data, .pinned], laidTests := true, laidLooks := .later }
def StatsBackCardSaid : Prop := Claim7.holds Tryd.pinned (.plain (OpenSpec.ofChange statsBackSpec)) statsBackCard

/-- THE TIED CARD OF 'prolixlaw25.StatsParts'. -/
def statsPartsCard : Claim7 := { stood := { row := statsPartsRow, standIns := [], harness := (true, "e6f707e3bd7d68471d3158e4c9c29c40c06c23a2566eea790abe730a02af37c9"), looks := false }, kinds := [], alts := [], laidByText := true, laidKinds := [.data, .data, .data, .data, .pinned], laidTests := true, laidLooks := .later }
def StatsPartsCardSaid : Prop := Claim7.holds Tryd.pinned (.plain (OpenSpec.ofChange statsPartsSpec)) statsPartsCard

/-- THE TIED CARD OF 'prolixlaw04.TokenAtoms'. -/
def tokenAtomsCard : Claim7 := { stood := { row := tokenAtomsRow, standIns := [], harness := (true, "e6f707e3bd7d68471d3158e4c9c29c40c06c23a2566eea790abe730a02af37c9"), looks := false }, kinds := [], alts := [], laidByText := true, laidKinds := [.data, .data, .data], laidTests := true, laidLooks := .later }
def TokenAtomsCardSaid : Prop := Claim7.holds Tryd.pinned (.plain (OpenSpec.ofChange tokenAtomsSpec)) tokenAtomsCard

/-- THE TIED CARD OF 'prolixlaw04.TokenBlanks'. -/
def tokenBlanksCard : Claim7 := { stood := { row := tokenBlanksRow, standIns := [], harness := (true, "e6f707e3bd7d68471d3158e4c9c29c40c06c23a2566eea790abe730a02af37c9"), looks := false }, kinds := [], alts := [], laidByText := true, laidKinds := [.data, .data, .data], laidTests := true, laidLooks := .later }
def TokenBlanksCardSaid : Prop := Claim7.holds Tryd.pinned (.plain (OpenSpec.ofChange tokenBlanksSpec)) tokenBlanksCard

/-- THE TIED CARD OF 'prolixlaw25.StatsFits'. -/
def statsFitsCard : Claim7 := { stood := { row := statsFitsRow, standIns := [], harness := (true, "e6f707e3bd7d68471d3158e4c9c29c40c06c23a2566eea790abe730a02af37c9"), looks := false }, kinds := [], alts := [], laidByText := true, laidKinds := [.data, .data, .data, .data, .pinned], laidTests := true, laidLooks := .later }
def StatsFitsCardSaid : Prop := Claim7.holds Tryd.pinned (.plain (OpenSpec.ofChange statsFitsSpec)) statsFitsCard

/-- THE TIED CARD OF 'prolixlaw06.ReadBrackets'. -/
def readBracketsCard : Claim7 := { stood := { row := readBracketsRow, standIns := [], harness := (true, "e6f707e3bd7d68471d3158e4c9c29c40c06c23a2566eea790abe730a02af37c9"), looks := false }, kinds := [], alts := [], laidByText := true, laidKinds := [.listed, .data, .data], laidTests := true, laidLooks := .later }
def ReadBracketsCardSaid : Prop := Claim7.holds Tryd.pinned (.plain (OpenSpec.ofChange readBracketsSpec)) readBracketsCard

/-- THE TIED CARD OF 'prolixlaw06.ReadBehind'. -/
def readBehindCard : Claim7 := { stood := { row := readBehindRow, standIns := [], harness := (true, "e6f707e3bd7d68471d3158e4c9c29c40c06c23a2566eea790abe730a02af37c9"), looks := false }, kinds := [], alts := [], laidByText := true, laidKinds := [.listed, .data, .data], laidTests := true, laidLooks := .later }
def ReadBehindCardSaid : Prop := Claim7.holds Tryd.pinned (.plain (OpenSpec.ofChange readBehindSpec)) readBehindCard

/-- THE TIED CARD OF 'prolixlaw06.ReadRight'. -/
def readRightCard : Claim7 := { stood := { row := readRightRow, standIns := [], harness := (true, "e6f707e3bd7d68471d3158e4c9c29c40c06c23a2566eea790abe730a02af37c9"), looks := false }, kinds := [], alts := [], laidByText := true, laidKinds := [.listed, .data, .data], laidTests := true, laidLooks := .later }
def ReadRightCardSaid : Prop := Claim7.holds Tryd.pinned (.plain (OpenSpec.ofChange readRightSpec)) readRightCard

/-- THE TIED CARD OF 'prolixlaw06.ReadInts'. -/
def readIntsCard : Claim7 := { stood := { row := readIntsRow, standIns := [], harness := (true, "e6f707e3bd7d68471d3158e4c9c29c40c06c23a2566eea790abe730a02af37c9"), looks := false }, kinds := [], alts := [], laidByText := true, laidKinds := [.data, .data, .data, .listed, .data, .data], laidTests := true, laidLooks := .later }
def ReadIntsCardSaid : Prop := Claim7.holds Tryd.pinned (.plain (OpenSpec.ofChange readIntsSpec)) readIntsCard

/-- THE SECOND FORM's CARD OF 'prolixlaw05.OpsLast'. -/
def opsLastUptoCard : Claim7 := { stood := { row := opsLastUptoRow, standIns := [], harness := (true, "e6f707e3bd7d68471d3158e4c9c29c40c06c23a2566eea790abe730a02af37c9"), looks := false }, kinds := [], alts := [], laidByText := true, laidKinds := [.listed, .data, .data], laidTests := true, laidLooks := .later }
def OpsLastUptoCardSaid : Prop := Claim7.holds Tryd.pinned (.plain (OpenSpec.upto opsLastSpec)) opsLastUptoCard

/-- THE SECOND FORM's CARD OF 'prolixlaw05.OpsBack'. -/
def opsBackUptoCard : Claim7 := { stood := { row := opsBackUptoRow, standIns := [], harness := (true, "e6f707e3bd7d68471d3158e4c9c29c40c06c23a2566eea790abe730a02af37c9"), looks := false }, kinds := [], alts := [], laidByText := true, laidKinds := [.listed, .data, .data], laidTests := true, laidLooks := .later }
def OpsBackUptoCardSaid : Prop := Claim7.holds Tryd.pinned (.plain (OpenSpec.upto opsBackSpec)) opsBackUptoCard

/-- THE SECOND FORM's CARD OF 'prolixlaw05.OpsApart'. -/
def opsApartUptoCard : Claim7 := { stood := { row := opsApartUptoRow, standIns := [], harness := (true, "e6f707e3bd7d68471d3158e4c9c29c40c06c23a2566eea790abe730a02af37c9"), looks := false }, kinds := [], alts := [], laidByText := true, laidKinds := [.listed, .data, .data], laidTests := true, laidLooks := .later }
def OpsApartUptoCardSaid : Prop := Claim7.holds Tryd.pinned (.plain (OpenSpec.upto opsApartSpec)) opsApartUptoCard

/-- THE SECOND FORM's CARD OF 'prolixlaw05.OpsPlay'. -/
def opsPlayUptoCard : Claim7 := { stood := { row := opsPlayUptoRow, standIns := [], harness := (true, "e6f707e3bd7d68471d3158e4c9c29c40c06c23a2566eea790abe730a02af37c9"), looks := false }, kinds := [], alts := [], laidByText := true, laidKinds := [.listed, .data, .data], laidTests := true, laidLooks := .later }
def OpsPlayUptoCardSaid : Prop := Claim7.holds Tryd.pinned (.plain (OpenSpec.upto opsPlaySpec)) opsPlayUptoCard

/-- THE SECOND FORM's CARD OF 'prolixlaw25.StatsBack'. -/
def statsBackUptoCard : Claim7 := { stood := { row := statsBackUptoRow, standIns := [], harness := (true, "e6f707e3bd7d68471d3158e4c9c29c40c06c23a2566eea790abe730a02af37c9"), looks := false }, kinds := [], alts := [], laidByText := true, laidKinds := [.data, .data, .data, .data, .pinned], laidTests := true, laidLooks := .later }
def StatsBackUptoCardSaid : Prop := Claim7.holds Tryd.pinned (.plain (OpenSpec.upto statsBackSpec)) statsBackUptoCard

/-- THE SECOND FORM's CARD OF 'prolixlaw25.StatsParts'. -/
def statsPartsUptoCard : Claim7 := { stood := { row := statsPartsUptoRow, standIns := [], harness := (true, "e6f707e3bd7d68471d3158e4c9c29c40c06c23a2566eea790abe730a02af37c9"), looks := false }, kinds := [], alts := [], laidByText := true, laidKinds := [.data, .data, .data, .data, .pinned], laidTests := true, laidLooks := .later }
def StatsPartsUptoCardSaid : Prop := Claim7.holds Tryd.pinned (.plain (OpenSpec.upto statsPartsSpec)) statsPartsUptoCard

/-- THE SECOND FORM's CARD OF 'prolixlaw04.TokenAtoms'. -/
def tokenAtomsUptoCard : Claim7 := { stood := { row := tokenAtomsUptoRow, standIns := [], harness := (true, "e6f707e3bd7d68471d3158e4c9c29c40c06c23a2566eea790abe730a02af37c9"), looks := false }, kinds := [], alts := [], laidByText := true, laidKinds := [.data, .data, .data], laidTests := true, laidLooks := .later }
def TokenAtomsUptoCardSaid : Prop := Claim7.holds Tryd.pinned (.plain (OpenSpec.upto tokenAtomsSpec)) tokenAtomsUptoCard

/-- THE SECOND FORM's CARD OF 'prolixlaw04.TokenBlanks'. -/
def tokenBlanksUptoCard : Claim7 := { stood := { row := tokenBlanksUptoRow, standIns := [], harness := (true, "e6f707e3bd7d68471d3158e4c9c29c40c06c23a2566eea790abe730a02af37c9"), looks := false }, kinds := [], alts := [], laidByText := true, laidKinds := [.data, .data, .data], laidTests := true, laidLooks := .later }
def TokenBlanksUptoCardSaid : Prop := Claim7.holds Tryd.pinned (.plain (OpenSpec.upto tokenBlanksSpec)) tokenBlanksUptoCard

/-- THE SECOND FORM's CARD OF 'prolixlaw25.StatsFits'. -/
def statsFitsUptoCard : Claim7 := { stood := { row := statsFitsUptoRow, standIns := [], harness := (true, "e6f707e3bd7d68471d3158e4c9c29c40c06c23a2566eea790abe730a02af37c9"), looks := false }, kinds := [], alts := [], laidByText := true, laidKinds := [.data, .data, .data, .data, .pinned], laidTests := true, laidLooks := .later }
def StatsFitsUptoCardSaid : Prop := Claim7.holds Tryd.pinned (.plain (OpenSpec.upto statsFitsSpec)) statsFitsUptoCard

/-- THE SECOND FORM's CARD OF 'prolixlaw06.ReadBrackets'. -/
def readBracketsUptoCard : Claim7 := { stood := { row := readBracketsUptoRow, standIns := [], harness := (true, "e6f707e3bd7d68471d3158e4c9c29c40c06c23a2566eea790abe730a02af37c9"), looks := false }, kinds := [], alts := [], laidByText := true, laidKinds := [.listed, .data, .data], laidTests := true, laidLooks := .later }
def ReadBracketsUptoCardSaid : Prop := Claim7.holds Tryd.pinned (.plain (OpenSpec.upto readBracketsSpec)) readBracketsUptoCard

/-- THE SECOND FORM's CARD OF 'prolixlaw06.ReadBehind'. -/
def readBehindUptoCard : Claim7 := { stood := { row := readBehindUptoRow, standIns := [], harness := (true, "e6f707e3bd7d68471d3158e4c9c29c40c06c23a2566eea790abe730a02af37c9"), looks := false }, kinds := [], alts := [], laidByText := true, laidKinds := [.listed, .data, .data], laidTests := true, laidLooks := .later }
def ReadBehindUptoCardSaid : Prop := Claim7.holds Tryd.pinned (.plain (OpenSpec.upto readBehindSpec)) readBehindUptoCard

/-- THE SECOND FORM's CARD OF 'prolixlaw06.ReadRight'. -/
def readRightUptoCard : Claim7 := { stood := { row := readRightUptoRow, standIns := [], harness := (true, "e6f707e3bd7d68471d3158e4c9c29c40c06c23a2566eea790abe730a02af37c9"), looks := false }, kinds := [], alts := [], laidByText := true, laidKinds := [.listed, .data, .data], laidTests := true, laidLooks := .later }
def ReadRightUptoCardSaid : Prop := Claim7.holds Tryd.pinned (.plain (OpenSpec.upto readRightSpec)) readRightUptoCard

/-- THE SECOND FORM's CARD OF 'prolixlaw06.ReadInts'. -/
def readIntsUptoCard : Claim7 := { stood := { row := readIntsUptoRow, standIns := [], harness := (true, "e6f707e3bd7d68471d3158e4c9c29c40c06c23a2566eea790abe730a02af37c9"), looks := false }, kinds := [], alts := [], laidByText := true, laidKinds := [.data, .data, .data, .listed, .data, .data], laidTests := true, laidLooks := .later }
def ReadIntsUptoCardSaid : Prop := Claim7.holds Tryd.pinned (.plain (OpenSpec.upto readIntsSpec)) readIntsUptoCard
end Rows
end Go.Proofs.YtojelojbhcmiaaaDoor
