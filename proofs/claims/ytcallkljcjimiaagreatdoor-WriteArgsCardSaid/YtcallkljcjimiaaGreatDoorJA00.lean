import Derived.Test.YtcallkljcjimiaaGreatDoorJW04
import Derived.Test.YtcallkljcjimiaaGreatDoorJW01
import Derived.Maps.Keyed
import Derived.WalkKit
import Derived.DeepKeys4
import Derived.Deep.Draws
import Derived.WalkSpells
import Derived.WalkSmall
import Derived.Deep.QuietTactic
import Derived.BigQuiet
import Derived.Handy
import Derived.Test.YtcallkljcjimiaaGreatDoorProg
import Derived.KernelRfl
import Derived.Laws.AppendOwn
import Derived.Laws.MakeOwn
import Derived.Deep.OwnRows
namespace Go.Proofs.YtcallkljcjimiaaGreatDoor
open Go.RowKit Go.Maps
open Go.MapKept (Stamped)
section
variable {κ ν : Type} [DecidableEq κ]
end
section
variable {P : Program} {w w' : World} {kt et t ty : TypeId} {κ ν : Type} {ek : κ → Value} {ev : ν → Value} {okk : κ → Prop} {l : List (κ × ν)} {b : Nat}
theorem MapAt.drewN (h : MapAt w b ek ev l) (n : Nat) : MapAt (w.drewN n) b ek ev l := h.keep rfl
theorem MapAt.grown {row : Option Nat} (h : MapAt w b ek ev l) (hb : w.grownBy w' row) (hB : some b ≠ row) : MapAt w' b ek ev l := h.keep (hb.block b h.lt hB)
variable [DecidableEq κ]
end
end Go.Proofs.YtcallkljcjimiaaGreatDoor
namespace Go.Proofs.YtcallkljcjimiaaGreatDoor
open Go.RowKit Go.Maps
set_option maxRecDepth 100000
theorem TabAt.drewN {w : World} {bt bm : Nat} {es : List (OpK × OpV)} (h : TabAt w bt bm es) (n : Nat) : TabAt (w.drewN n) bt bm es := h.keep rfl rfl
open Go.RowKit
theorem TermAt.leaf (w : World) (B : Nat) (k n : Int) (s : List UInt8) (A : Option Addr) (c : Nat) (hs : s.length ≤ maxLen) : TermAt w B ⟨k, n, s, A, 0, c⟩ (.mk k n s []) :=
 .mk ⟨k, n, s, A, 0, c⟩ [] [] rfl rfl hs (fun i y h => by simp at h) (fun i y t h => by simp at h)
end Go.Proofs.YtcallkljcjimiaaGreatDoor
