/-
  DERIVED. GIVEN WITH THE SEED: THE CARDS: each row of YtjdnigepnfeboaaGreatDoorRows.lean that lists a variable, with what it lists TIED to the program's text (the seventh form; the later family's looks); each row that meets fmt, with fmt's text TOLD by the authors' own Lean function (tested against real Go, not proved from fmt's source: count such statements apart). THE CARD IS WHAT COUNTS. Prove the row's statement (the work); the ties are given (YtjdnigepnfeboaaGreatDoorTie.lean); close each card by the builder's one call (the guide's Derived/Test/ToyasCard.lean, 'card_holds'). Laid BY PROGRAM, IN A SANDBOX (cutbox-door.mjs). By AI agents, Wed Nov 11 2026. No macro, syntax, notation, axiom, sorry.
-/
import Derived.Test.YtjdnigepnfeboaaGreatDoorRows
import GoSem.ClaimSeven
namespace Go.Proofs.YtjdnigepnfeboaaGreatDoor
namespace Rows

/-- THE TIED CARD OF 'prolixtop.TopEquals'. -/
def topEqualsCard : Claim7 := { stood := { row := topEqualsRow, standIns := [], harness := (true, "e6f872d11da6be1ba342dcd263a69c7b2c842e25b76c8ceb73031cd488a16a9b"), looks := true }, kinds := [], alts := [], laidByText := true, laidKinds := [.data, .data, .data, .listed, .data, .data], laidTests := true, laidLooks := .later }
def TopEqualsCardSaid : Prop := Claim7.holds Tryz.pinned (.plain (OpenSpec.ofChange topEqualsSpec)) topEqualsCard

/-- THE SECOND FORM's CARD OF 'prolixtop.TopEquals'. -/
def topEqualsUptoCard : Claim7 := { stood := { row := topEqualsUptoRow, standIns := [], harness := (true, "e6f872d11da6be1ba342dcd263a69c7b2c842e25b76c8ceb73031cd488a16a9b"), looks := true }, kinds := [], alts := [], laidByText := true, laidKinds := [.data, .data, .data, .listed, .data, .data], laidTests := true, laidLooks := .later }
def TopEqualsUptoCardSaid : Prop := Claim7.holds Tryz.pinned (.plain (OpenSpec.upto topEqualsSpec)) topEqualsUptoCard
end Rows
end Go.Proofs.YtjdnigepnfeboaaGreatDoor
