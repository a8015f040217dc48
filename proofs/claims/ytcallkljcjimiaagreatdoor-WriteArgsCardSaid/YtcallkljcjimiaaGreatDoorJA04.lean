import Derived.Test.YtcallkljcjimiaaGreatDoorJA03
import Derived.Test.YtcallkljcjimiaaGreatDoorJW33
import Derived.Test.YtcallkljcjimiaaGreatDoorJW34
import Derived.Deep.AppendLies
import Derived.Deep.RegionLaw
import Derived.WalkKit
import Derived.WalkSmall
import Derived.Lib.Hide
import Derived.Laws.AppendOwn
import Derived.Laws.MakeOwn
import Derived.Deep.OwnRows
import Derived.Test.YtcallkljcjimiaaGreatDoorProg
import Derived.LoopTactic
import Derived.BigQuiet
import Derived.Deep.QuietTactic
import Derived.Shelf.Small.Strs
import Derived.Shelf.Strings.Search1
import Derived.Shelf.Strings.Search2
import Derived.Shelf.Strings.Search3
import Derived.Shelf.Strings.Count
import Derived.Shelf.LaysM
import Derived.Shelf.Strings.Shaped
import Derived.Shelf.Strings.Prefix
import Derived.Laws.IdiomStrings
import Derived.Laws.BytesArg
import Derived.Laws.DeepStrings4
import Derived.StillTailTactics
import Derived.Deep.RegionHeld3
import Derived.Deep.LoopGhost
import Derived.IntWalk
import Derived.Lib.Index
import Derived.KernelRfl
import Derived.Shelf.Small.Wraps
import Derived.Shelf.Strings.Fields
namespace Go.Proofs.YtcallkljcjimiaaGreatDoor
open Go.RowKit
set_option maxRecDepth 100000
section
variable {w u u' : World} {B bx tb a ln en : Nat} {T : List UInt8} {v : Value} {ts : List Tok} {t : TokIs} {tl : Int} {o q : Bool}
theorem AddSt.alloc (h : AddSt w B bx tb T a ln en v ts t tl o q u) (ob : Obj) : AddSt w B bx tb T a ln en v ts t tl o q (u.alloc ob) :=
 ⟨h.lex.later ((Below.refl _ _).alloc (Nat.le_refl _) _), (((Below.refl u.heap.size u).alloc (Nat.le_refl _) ob).block tb (Array.getElem?_eq_some_iff.1 h.tok).1).trans h.tok, h.row.alloc _, h.fr.alloc _, h.bx_lt, h.base, h.ne⟩
end
end Go.Proofs.YtcallkljcjimiaaGreatDoor
namespace Go.Proofs.YtcallkljcjimiaaGreatDoor
def dpW : List WaitF → Nat
 | [] => 0
 | f :: r => 1 + (Tm.deeps f.l + f.l.length) + dpW r
def RdS.dp (s : RdS) : Nat := (if s.hv = true then s.t.deep else 0) + dpW s.wait
section
variable {o : OpsF} {ts : List Tok} {s s' : RdS}
end
end Go.Proofs.YtcallkljcjimiaaGreatDoor
namespace Go.Proofs.YtcallkljcjimiaaGreatDoor
open Go.RowKit Go.Maps
set_option maxRecDepth 100000
theorem RowsAt.lt {w : World} {bs : Nat} (h : RowsAt w bs) : bs < w.heap.size := World.block_lt_of_cell? w _ (h 0 (by omega)).1
end Go.Proofs.YtcallkljcjimiaaGreatDoor
