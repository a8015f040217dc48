import Derived.Test.YtcallkljcjimiaaGreatDoorJG01
import Derived.Test.YtcallkljcjimiaaGreatDoorJW32
import Derived.Deep.RegionHeld3
import Derived.Deep.DeepCutAuto
import Derived.WalkKit
import Derived.WalkSmall
import Derived.Lib.Hide
import Derived.Laws.AppendOwn
import Derived.Laws.MakeOwn
import Derived.Deep.OwnRows
import Derived.Test.YtcallkljcjimiaaGreatDoorProg
import Derived.LoopTactic
import Derived.BigQuiet
import Derived.Deep.QuietTactic
import Derived.Laws.IdiomStrings
import Derived.Laws.BytesArg
import Derived.Laws.DeepStrings4
import Derived.StillTailTactics
import Derived.Shelf.Small.Strs
import Derived.Shelf.Strings.Search1
import Derived.Shelf.Strings.Search2
import Derived.Shelf.Strings.Search3
import Derived.Shelf.Strings.Count
import Derived.Shelf.LaysM
import Derived.Shelf.Strings.Shaped
import Derived.Shelf.Strings.Prefix
import Derived.Deep.LoopGhost
import Derived.IntWalk
import Derived.Lib.Index
namespace Go.Proofs.YtcallkljcjimiaaGreatDoor
open Go.RowKit
set_option maxRecDepth 100000
theorem NextInv.step {w u u0 u1 : World} {bx a ln en : Nat} {T : List UInt8} {v : Value} {o : Obj} (h : NextInv w bx T a ln en v u) (hu : u0.heap = u.heap ∧ u0.os = u.os ∧ u0.tape = u.tape ∧ u0.output = u.output) (hb : Below u0.heap.size u0 u1) : NextInv w bx T a ln en v (u1.alloc o) := by
 obtain ⟨e1, e2, e3, e4⟩ := hu
 have hlt : w.heap.size < u.heap.size := (Array.getElem?_eq_some_iff.1 h.res).1
 have hs := hb.size
 rw [e1] at hs
 have hk : ∀ k, k < u.heap.size → (u1.alloc o).heap[k]? = u.heap[k]? := fun k hk => by rw [Below.heap_alloc _ _ k (by omega), hb.block k (by rw [e1]; exact hk), e1]
 refine ⟨h.lex.keep (hk _ h.lex.lt), (hk _ hlt).trans h.res, ?_⟩
 have hbb : Below u.heap.size u u1 := ⟨hb.os.trans e2, hb.tape.trans e3, hb.output.trans e4, hs, fun k hk2 => by rw [hb.block k (by rw [e1]; exact hk2), e1]⟩
 exact (h.below.trans (hbb.mono h.below.size)).alloc (Nat.le_trans h.below.size hs) o
end Go.Proofs.YtcallkljcjimiaaGreatDoor
