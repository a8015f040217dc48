import Derived.Test.YtcallkljcjimiaaGreatDoorJA05
import Derived.Test.YtcallkljcjimiaaGreatDoorJW43
import Derived.WalkKit
import Derived.WalkSmall
import Derived.Lib.Hide
import Derived.Laws.AppendOwn
import Derived.Laws.MakeOwn
import Derived.Deep.OwnRows
import Derived.Test.YtcallkljcjimiaaGreatDoorProg
import Derived.KernelRfl
import Derived.Laws.AppendOwnNone
import Derived.Deep.AppendLies
import Derived.Deep.RegionLaw
import Derived.WalkSpells
import Derived.BigQuiet
import Derived.Deep.QuietTactic
import Derived.StillTailTactics
import Derived.IntWalk
import Derived.Maps.Keyed
import Derived.StringKeys
import Derived.Lib.ItoaMem
import Derived.Lib.ItoaNum
import Derived.Deep.RegionHeld3
import Derived.Laws.OwnMore
namespace Go.Proofs.YtcallkljcjimiaaGreatDoor
mutual
def varsT : Tm → List Int | .mk k n _ l => (if k = 1 then [n] else []) ++ varsL l
def varsL : List Tm → List Int | [] => [] | t :: r => varsT t ++ varsL r
end
def occW : List WaitF → List Int
 | [] => []
 | f :: r => occW r ++ varsL f.l
def RdS.occ (s : RdS) : List Int := occW s.wait ++ (if s.hv = true then varsT s.t else [])
def firsts : List Int → List Int → List Int
 | seen, [] => seen
 | seen, n :: r => if n ∈ seen then firsts seen r else firsts (seen ++ [n]) r
def upTo (k : Nat) : List Int := (List.range k).map fun (i : Nat) => (i : Int)
structure NumbOk (s : RdS) : Prop where
 cnt : ∃ k : Nat, s.cnt = (k : Int) ∧ firsts [] s.occ = upTo k
 same : s.names = s.vars
 low : ∀ y ∈ s.vars, 0 ≤ y.2 ∧ y.2 < s.cnt
 up : s.vars.Pairwise (fun a b => a.2 < b.2)
 once : s.vars.Pairwise (fun a b => a.1 ≠ b.1)
 blank : ∀ y ∈ s.vars, y.1 ≠ [95]
theorem NumbOk.keep {s s' : RdS} (h : NumbOk s) (h1 : s'.occ = s.occ) (h2 : s'.cnt = s.cnt) (h3 : s'.vars = s.vars) (h4 : s'.names = s.names) : NumbOk s' := by
 obtain ⟨a, b, c, d, e, f⟩ := h
 exact ⟨by rw [h1, h2]; exact a, by rw [h3, h4]; exact b, by rw [h2, h3]; exact c, by rw [h3]; exact d, by rw [h3]; exact e, by rw [h3]; exact f⟩
structure Keeps (s s' : RdS) (extra : List Int) : Prop where
 occ : s'.occ = occW s.wait ++ extra
 cnt : s'.cnt = s.cnt
 vars : s'.vars = s.vars
 names : s'.names = s.names
section
variable {o : OpsF} {ts : List Tok} {s s' : RdS}
theorem Keeps.go {k : Nat} {e : List Int} (h : Keeps (s.go k) s' e) : Keeps s s' e := ⟨h.occ, h.cnt, h.vars, h.names⟩
theorem Keeps.num {e : List Int} (h : Keeps s s' e) (hn : NumbOk s) (he : s.occ = occW s.wait ++ e) : NumbOk s' := hn.keep (h.occ.trans he.symm) h.cnt h.vars h.names
end
end Go.Proofs.YtcallkljcjimiaaGreatDoor
namespace Go.Proofs.YtcallkljcjimiaaGreatDoor
open Go.RowKit Go.Maps
set_option maxRecDepth 100000
mutual
theorem renT_same : ∀ (t : Tm) (seen : List Int), renT (fun l n => (n, l)) seen t = (t, seen)
 | .mk k n s l, seen => by
  rw [renT, renTs_same l seen]
  split
  ·rename_i h
   rw [h]
  ·rfl
theorem renTs_same : ∀ (l : List Tm) (seen : List Int), renTs (fun l n => (n, l)) seen l = (l, seen)
 | [], seen => by rw [renTs]
 | t :: r, seen => by rw [renTs, renT_same t seen, renTs_same r seen]
end
theorem TyB.alloc {w : World} {t : TypeId} {k : Nat} (h : TyB w t k) (o : Obj) : TyB (w.alloc o) t k := h.keep (Below.heap_alloc _ _ _ h.lt)
section
variable {w w' w'' : World} {B0 : Nat} {p : Loc} {k n : Int} {s : List UInt8} {sl : Value}
theorem StepW.refl (w : World) (B0 : Nat) (p : Loc) : StepW w w B0 p := ⟨fun _ _ _ _ _ _ _ _ h => h, fun _ h => h, fun _ _ => rfl⟩
theorem StepW.alloc (w : World) (hB : B0 ≤ w.heap.size) (p : Loc) (o : Obj) : StepW w (w.alloc o) B0 p :=
 ⟨fun _ _ _ _ _ _ _ e3 hc => hc.keep (Below.heap_alloc _ _ _ e3.lt), fun _ hk => hk.alloc _, fun k hk => Below.heap_alloc _ _ _ (by omega)⟩
end
section
variable {u wr w2 : World} {B0 : Nat} {Q : World → List Int → Prop} {nu : List Int → Int → Int × List Int} {fin : List Int} {T0 : Tm} {S : Nat → Prop} {Dn : List (Loc × Tm)} {Pd : List (Loc × Tm × Tm)} {seen : List Int} {v : Value} {p : Loc} {t T : Tm}
end
end Go.Proofs.YtcallkljcjimiaaGreatDoor
