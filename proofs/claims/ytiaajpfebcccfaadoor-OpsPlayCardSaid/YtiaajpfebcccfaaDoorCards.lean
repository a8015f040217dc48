/-
  DERIVED. GIVEN WITH THE SEED: THE CARDS: each row of YtiaajpfebcccfaaDoorRows.lean that lists a variable, with what it lists TIED to the program's text (the seventh form; the later family's looks); each row that meets fmt, with fmt's text TOLD by the authors' own Lean function (tested against real Go, not proved from fmt's source: count such statements apart). THE CARD IS WHAT COUNTS. Prove the row's statement (the work); the ties are given (YtiaajpfebcccfaaDoorTie.lean); close each card by the builder's one call (the guide's Derived/Test/ToyasCard.lean, 'card_holds'). Laid BY PROGRAM, IN A SANDBOX (cutbox-door.mjs). By AI agents, Wed Nov 11 2026. No macro, syntax, notation, axiom, sorry.
-/
import Derived.Test.YtiaajpfebcccfaaDoorRows
import GoSem.ClaimSeven
namespace Go.Proofs.YtiaajpfebcccfaaDoor
namespace Rows

/-- THE TIED CARD OF 'prolixlaw05.OpsPlay'. -/
def opsPlayCard : Claim7 := { stood := { row := opsPlayRow, standIns := [], harness := (true, "ddf3fc1ef2610c6305d0eb43900b42641e27180c414541a83fd7441c12adad94"), looks := false }, kinds := [], alts := [], laidByText := true, laidKinds := [.listed, .data, .data], laidTests := true, laidLooks := .later }
def OpsPlayCardSaid : Prop := Claim7.holds Tryd.pinned (.plain (OpenSpec.ofChange opsPlaySpec)) opsPlayCard

/-- THE SECOND FORM's CARD OF 'prolixlaw05.OpsPlay'. -/
def opsPlayUptoCard : Claim7 := { stood := { row := opsPlayUptoRow, standIns := [], harness := (true, "ddf3fc1ef2610c6305d0eb43900b42641e27180c414541a83fd7441c12adad94"), looks := false }, kinds := [], alts := [], laidByText := true, laidKinds := [.listed, .data, .data], laidTests := true, laidLooks := .later }
def OpsPlayUptoCardSaid : Prop := Claim7.holds Tryd.pinned (.plain (OpenSpec.upto opsPlaySpec)) opsPlayUptoCard
end Rows
end Go.Proofs.YtiaajpfebcccfaaDoor
