/-
  DERIVED. GIVEN WITH THE SEED: THE CARDS: each row of YtplejnlgehjgjaaDoorRows.lean that lists a variable, with what it lists TIED to the program's text (the seventh form; the later family's looks); each row that meets fmt, with fmt's text TOLD by the authors' own Lean function (tested against real Go, not proved from fmt's source: count such statements apart). THE CARD IS WHAT COUNTS. Prove the row's statement (the work); the ties are given (YtplejnlgehjgjaaDoorTie.lean); close each card by the builder's one call (the guide's Derived/Test/ToyasCard.lean, 'card_holds'). Laid BY PROGRAM, IN A SANDBOX (cutbox-door.mjs). By AI agents, Wed Nov 11 2026. No macro, syntax, notation, axiom, sorry.
-/
import Derived.Test.YtplejnlgehjgjaaDoorRows
import GoSem.ClaimSeven
namespace Go.Proofs.YtplejnlgehjgjaaDoor
namespace Rows

/-- THE TIED CARD OF 'prolixlaw04.TokenAtoms'. -/
def tokenAtomsCard : Claim7 := { stood := { row := tokenAtomsRow, standIns := [], harness := (true, "1f08fa0a9da8b0695505692e44376ed00aa4b87951fa7aa004844e9183397ebe"), looks := false }, kinds := [], alts := [], laidByText := true, laidKinds := [.data, .data, .data], laidTests := true, laidLooks := .later }
def TokenAtomsCardSaid : Prop := Claim7.holds Tryd.pinned (.plain (OpenSpec.ofChange tokenAtomsSpec)) tokenAtomsCard

/-- THE TIED CARD OF 'prolixlaw04.TokenBlanks'. -/
def tokenBlanksCard : Claim7 := { stood := { row := tokenBlanksRow, standIns := [], harness := (true, "1f08fa0a9da8b0695505692e44376ed00aa4b87951fa7aa004844e9183397ebe"), looks := false }, kinds := [], alts := [], laidByText := true, laidKinds := [.data, .data, .data], laidTests := true, laidLooks := .later }
def TokenBlanksCardSaid : Prop := Claim7.holds Tryd.pinned (.plain (OpenSpec.ofChange tokenBlanksSpec)) tokenBlanksCard

/-- THE SECOND FORM's CARD OF 'prolixlaw04.TokenAtoms'. -/
def tokenAtomsUptoCard : Claim7 := { stood := { row := tokenAtomsUptoRow, standIns := [], harness := (true, "1f08fa0a9da8b0695505692e44376ed00aa4b87951fa7aa004844e9183397ebe"), looks := false }, kinds := [], alts := [], laidByText := true, laidKinds := [.data, .data, .data], laidTests := true, laidLooks := .later }
def TokenAtomsUptoCardSaid : Prop := Claim7.holds Tryd.pinned (.plain (OpenSpec.upto tokenAtomsSpec)) tokenAtomsUptoCard

/-- THE SECOND FORM's CARD OF 'prolixlaw04.TokenBlanks'. -/
def tokenBlanksUptoCard : Claim7 := { stood := { row := tokenBlanksUptoRow, standIns := [], harness := (true, "1f08fa0a9da8b0695505692e44376ed00aa4b87951fa7aa004844e9183397ebe"), looks := false }, kinds := [], alts := [], laidByText := true, laidKinds := [.data, .data, .data], laidTests := true, laidLooks := .later }
def TokenBlanksUptoCardSaid : Prop := Claim7.holds Tryd.pinned (.plain (OpenSpec.upto tokenBlanksSpec)) tokenBlanksUptoCard
end Rows
end Go.Proofs.YtplejnlgehjgjaaDoor
