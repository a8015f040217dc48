import Derived.Test.YtcallkljcjimiaaGreatDoorJW05
import Derived.Maps.Keyed
import Derived.WalkKit
import Derived.DeepKeys4
import Derived.Deep.Draws
import Derived.WalkSpells
import Derived.WalkSmall
import Derived.Deep.QuietTactic
import Derived.BigQuiet
import Derived.Handy
import Derived.Test.YtcallkljcjimiaaGreatDoorProg
import Derived.KernelRfl
import Derived.Lib.Hide
import Derived.Laws.AppendOwn
import Derived.Laws.MakeOwn
import Derived.Deep.OwnRows
namespace Go.Proofs.YtcallkljcjimiaaGreatDoor
open Go.RowKit Go.Maps
open Go.MapKept (Stamped)
section
variable {κ ν : Type} [DecidableEq κ]
end
section
variable {P : Program} {w w' : World} {kt et t ty : TypeId} {κ ν : Type} {ek : κ → Value} {ev : ν → Value} {okk : κ → Prop} {l : List (κ × ν)} {b : Nat}
theorem MapAt.drewN (h : MapAt w b ek ev l) (n : Nat) : MapAt (w.drewN n) b ek ev l := h.keep rfl
theorem MapAt.grown {row : Option Nat} (h : MapAt w b ek ev l) (hb : w.grownBy w' row) (hB : some b ≠ row) : MapAt w' b ek ev l := h.keep (hb.block b h.lt hB)
variable [DecidableEq κ]
end
end Go.Proofs.YtcallkljcjimiaaGreatDoor
namespace Go.Proofs.YtcallkljcjimiaaGreatDoor
open Go.RowKit Go.Maps
set_option maxRecDepth 100000
theorem TabAt.drewN {w : World} {bt bm : Nat} {es : List (OpK × OpV)} (h : TabAt w bt bm es) (n : Nat) : TabAt (w.drewN n) bt bm es := h.keep rfl rfl
section
variable {κ ν : Type} [DecidableEq κ]
theorem mget_nil (k : κ) : mget ([] : List (κ × ν)) k = none := rfl
theorem mget_cons (y : κ × ν) (r : List (κ × ν)) (k : κ) : mget (y :: r) k = if y.1 = k then some y.2 else mget r k := by
 unfold mget
 rw [List.find?_cons]
 by_cases e : y.1 = k <;> simp [e]
theorem mget_append (l r : List (κ × ν)) (k : κ) : mget (l ++ r) k = (mget l k).or (mget r k) := by
 unfold mget
 rw [List.find?_append]
 cases l.find? (fun x => decide (x.1 = k)) <;> simp
theorem mget_map_put (l : List (κ × ν)) (k k' : κ) (v : ν) : mget (l.map (fun x => if x.1 = k then (k, v) else x)) k' = if k' = k then (mget l k).map (fun _ => v) else mget l k' := by
 induction l with
 | nil => by_cases e : k' = k <;> simp [mget_nil, e]
 | cons y r ih =>
  rw [List.map_cons, mget_cons, ih, mget_cons, mget_cons]
  by_cases e : y.1 = k
  ·by_cases e2 : k' = k
   ·subst e2; simp [e]
   ·have e3 : ¬ k = k' := fun h => e2 h.symm
    simp [e, e2, e3]
  ·by_cases e2 : k' = k
   ·subst e2; simp [e]
   ·simp [e, e2]
theorem mget_mput_other (l : List (κ × ν)) (k k' : κ) (v : ν) (h : k' ≠ k) : mget (mput l k v) k' = mget l k' := by
 unfold mput
 split
 ·rw [mget_map_put, if_neg h]
 ·have : ¬ k = k' := fun e => h e.symm
  rw [mget_append, mget_cons, mget_nil, if_neg this]
  simp
theorem mget_mdel_same (l : List (κ × ν)) (k : κ) : mget (mdel l k) k = none :=
 mget_none fun x hx => by simpa using (List.mem_filter.1 hx).2
theorem mget_mdel_other (l : List (κ × ν)) (k k' : κ) (h : k' ≠ k) : mget (mdel l k) k' = mget l k' := by
 unfold mdel mget
 induction l with
 | nil => rfl
 | cons y r ih =>
  by_cases e : y.1 = k
  ·have e1 : ¬ y.1 = k' := fun e2 => h (e2.symm.trans e)
   rw [List.filter_cons_of_neg (by simpa using e), List.find?_cons_of_neg (by simpa using e1)]
   exact ih
  ·rw [List.filter_cons_of_pos (by simpa using e)]
   by_cases e1 : y.1 = k'
   ·simp [e1]
   ·rw [List.find?_cons_of_neg (by simpa using e1), List.find?_cons_of_neg (by simpa using e1)]
    exact ih
end
end Go.Proofs.YtcallkljcjimiaaGreatDoor
namespace Go.Proofs.YtcallkljcjimiaaGreatDoor
open Go.RowKit
theorem TermAt.leaf (w : World) (B : Nat) (k n : Int) (s : List UInt8) (A : Option Addr) (c : Nat) (hs : s.length ≤ maxLen) : TermAt w B ⟨k, n, s, A, 0, c⟩ (.mk k n s []) :=
 .mk ⟨k, n, s, A, 0, c⟩ [] [] rfl rfl hs (fun i y h => by simp at h) (fun i y t h => by simp at h)
end Go.Proofs.YtcallkljcjimiaaGreatDoor
