/-
  Lists of operators' definitions that came in as slices. No condition.
-/
import Derived.Test.YtiaajpfebcccfaaDoorTabNew
namespace Go.Proofs.YtiaajpfebcccfaaDoor
open Go.RowKit Go.Maps
set_option maxRecDepth 100000

abbrev DefT := Int × Int × List UInt8
/-- A slice of operators' definitions that reads as a list, and lies below block B. -/
def DefsAt (w : World) (B : Nat) (A : Option Addr) (n : Nat) (l : List DefT) : Prop :=
  l.length = n ∧ ∀ i x, l[i]? = some x → ∃ b off, A = some ⟨b, off, none⟩ ∧ b < B ∧ w.cell? ⟨b, off + i * 3, none⟩ = some (.int .i64 x.1) ∧ w.cell? ⟨b, off + i * 3 + 1, none⟩ = some (.int .i64 x.2.1) ∧
    w.cell? ⟨b, off + i * 3 + 2, none⟩ = some (.string ⟨x.2.2.toArray⟩) ∧ x.2.2.length ≤ maxLen
theorem DefsAt.keep {w w' : World} {B : Nat} {A : Option Addr} {n : Nat} {l : List DefT} (h : DefsAt w B A n l) (hb : ∀ k, k < B → w'.heap[k]? = w.heap[k]?) : DefsAt w' B A n l :=
  ⟨h.1, fun i x hx => by
    obtain ⟨b, off, h1, h2, h3, h4, h5, h6⟩ := h.2 i x hx
    exact ⟨b, off, h1, h2, (World.cell?_of_block (a := ⟨b, off + i * 3, none⟩) (hb b h2)).trans h3, (World.cell?_of_block (a := ⟨b, off + i * 3 + 1, none⟩) (hb b h2)).trans h4, (World.cell?_of_block (a := ⟨b, off + i * 3 + 2, none⟩) (hb b h2)).trans h5, h6⟩⟩
theorem DefsAt.below {w w' : World} {B : Nat} {A : Option Addr} {n : Nat} {l : List DefT} (h : DefsAt w B A n l) (hb : Below B w w') : DefsAt w' B A n l := h.keep hb.block

end Go.Proofs.YtiaajpfebcccfaaDoor
