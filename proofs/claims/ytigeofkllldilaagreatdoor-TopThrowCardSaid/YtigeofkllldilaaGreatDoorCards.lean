/-
  DERIVED. GIVEN WITH THE SEED: THE CARDS: each row of YtigeofkllldilaaGreatDoorRows.lean that lists a variable, with what it lists TIED to the program's text (the seventh form; the later family's looks); each row that meets fmt, with fmt's text TOLD by the authors' own Lean function (tested against real Go, not proved from fmt's source: count such statements apart). THE CARD IS WHAT COUNTS. Prove the row's statement (the work); the ties are given (YtigeofkllldilaaGreatDoorTie.lean); close each card by the builder's one call (the guide's Derived/Test/ToyasCard.lean, 'card_holds'). Laid BY PROGRAM, IN A SANDBOX (cutbox-door.mjs). By AI agents, Wed Nov 11 2026. No macro, syntax, notation, axiom, sorry.
-/
import Derived.Test.YtigeofkllldilaaGreatDoorRows
import GoSem.ClaimSeven
namespace Go.Proofs.YtigeofkllldilaaGreatDoor
namespace Rows

/-- THE TIED CARD OF 'prolixtop.TopThrow'. -/
def topThrowCard : Claim7 := { stood := { row := topThrowRow, standIns := [], harness := (true, "0332f5e332b51d9846865609c46474c14224782f1c73887bf570cc88cd4f5e15"), looks := true }, kinds := [], alts := [], laidByText := true, laidKinds := [.data, .data, .data, .listed, .data, .data], laidTests := true, laidLooks := .later }
def TopThrowCardSaid : Prop := Claim7.holds Tryz.pinned (.plain (OpenSpec.ofChange topThrowSpec)) topThrowCard

/-- THE SECOND FORM's CARD OF 'prolixtop.TopThrow'. -/
def topThrowUptoCard : Claim7 := { stood := { row := topThrowUptoRow, standIns := [], harness := (true, "0332f5e332b51d9846865609c46474c14224782f1c73887bf570cc88cd4f5e15"), looks := true }, kinds := [], alts := [], laidByText := true, laidKinds := [.data, .data, .data, .listed, .data, .data], laidTests := true, laidLooks := .later }
def TopThrowUptoCardSaid : Prop := Claim7.holds Tryz.pinned (.plain (OpenSpec.upto topThrowSpec)) topThrowUptoCard
end Rows
end Go.Proofs.YtigeofkllldilaaGreatDoor
