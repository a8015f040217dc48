import Derived.Test.YtcallkljcjimiaaGreatDoorJW40
import Derived.Lib.ItoaMem
namespace Go.Proofs.YtcallkljcjimiaaGreatDoor
section
variable {o : OpsF} {ts : List Tok}
end
section
variable {o : OpsF} {es : List (OpK × OpV)} {way : Int}
def rightOf (o : OpsF) (p : OpR) : Int := if p.side = 1 then (o.pre p.name).2 else if p.side = 2 then (o.inf p.name).2.2 else 0
structure OperIs (o : OpsF) (p : OpR) : Prop where
 one : p.side = 1 → p.pri = (o.pre p.name).1
 two : p.side = 2 → p.pri = (o.inf p.name).1 ∧ p.left = decide ((o.inf p.name).2.1 = (o.inf p.name).1) ∧ p.right = decide ((o.inf p.name).2.2 = (o.inf p.name).1)
 three : p.side = 3 → p.pri = (o.post p.name).1
 pos : 0 < p.pri
 side : p.side = 1 ∨ p.side = 2 ∨ p.side = 3
theorem OperIs.right (H : TabOk o) {p : OpR} (h : OperIs o p) : 0 ≤ rightOf o p ∧ rightOf o p ≤ p.pri ∧ p.pri ≤ 1200 := by
 have hp := h.pos
 unfold rightOf
 rcases h.side with hs | hs | hs
 ·rw [if_pos hs]
  have := h.one hs
  have := H.pre p.name
  omega
 ·have n1 : ¬ p.side = 1 := by omega
  rw [if_neg n1, if_pos hs]
  have := (h.two hs).1
  have := H.inf p.name
  omega
 ·have n1 : ¬ p.side = 1 := by omega
  have n2 : ¬ p.side = 2 := by omega
  rw [if_neg n1, if_neg n2]
  have := h.three hs
  have := H.post p.name
  omega
end
end Go.Proofs.YtcallkljcjimiaaGreatDoor
namespace Go.Proofs.YtcallkljcjimiaaGreatDoor
section
variable {o : OpsF} {es : List (OpK × OpV)} {way : Int}
def Opens (l : List Lxm) : Prop := ∃ x y, l = x :: y ∧ (x.kind = 6 → x.s = [40] ∨ x.s = [91] ∨ x.s = [123])
theorem Opens.app {l : List Lxm} (h : Opens l) (r : List Lxm) : Opens (l ++ r) := by
 obtain ⟨x, y, rfl, hx⟩ := h
 exact ⟨x, y ++ r, rfl, hx⟩
theorem Opens.ne {l : List Lxm} (h : Opens l) : l ≠ [] := by
 obtain ⟨x, y, rfl, -⟩ := h
 simp
theorem Opens.off {l : List Lxm} (h : Opens l) {c : UInt8} (hc : c = 93 ∨ c = 125) : ∃ x y, l = x :: y ∧ (x.kind = 6 → x.s ≠ [c]) := by
 obtain ⟨x, y, rfl, hx⟩ := h
 refine ⟨x, y, rfl, fun hk e => ?_⟩
 rcases hx hk with h | h | h <;> (rw [h] at e; rcases hc with rfl | rfl <;> exact absurd e (by decide))
def Begins (o : OpsF) (l : List Lxm) : Prop := ∀ (ts : List Tok) (i : Nat) (r : List Lxm), AtL ts i (l ++ r) → beginsF o (peekF ts i) = true
theorem Begins.app {l : List Lxm} (h : Begins o l) (y : List Lxm) : Begins o (l ++ y) := fun ts i r ha => h ts i (y ++ r) (by rwa [List.append_assoc] at ha)
end
end Go.Proofs.YtcallkljcjimiaaGreatDoor
namespace Go.Proofs.YtcallkljcjimiaaGreatDoor
open Go.RowKit Go.Maps
set_option maxRecDepth 100000
abbrev DefT := Int × Int × List UInt8
def DefsAt (w : World) (B : Nat) (A : Option Addr) (n : Nat) (l : List DefT) : Prop :=
 l.length = n ∧ ∀ i x, l[i]? = some x → ∃ b off, A = some ⟨b, off, none⟩ ∧ b < B ∧ w.cell? ⟨b, off + i * 3, none⟩ = some (.int .i64 x.1) ∧ w.cell? ⟨b, off + i * 3 + 1, none⟩ = some (.int .i64 x.2.1) ∧
  w.cell? ⟨b, off + i * 3 + 2, none⟩ = some (.string ⟨x.2.2.toArray⟩) ∧ x.2.2.length ≤ maxLen
theorem DefsAt.keep {w w' : World} {B : Nat} {A : Option Addr} {n : Nat} {l : List DefT} (h : DefsAt w B A n l) (hb : ∀ k, k < B → w'.heap[k]? = w.heap[k]?) : DefsAt w' B A n l :=
 ⟨h.1, fun i x hx => by
  obtain ⟨b, off, h1, h2, h3, h4, h5, h6⟩ := h.2 i x hx
  exact ⟨b, off, h1, h2, (World.cell?_of_block (a := ⟨b, off + i * 3, none⟩) (hb b h2)).trans h3, (World.cell?_of_block (a := ⟨b, off + i * 3 + 1, none⟩) (hb b h2)).trans h4, (World.cell?_of_block (a := ⟨b, off + i * 3 + 2, none⟩) (hb b h2)).trans h5, h6⟩⟩
structure MadeInv (w : World) (bt bm : Nat) (es : List (OpK × OpV)) (wr : World) : Prop where
 tab : TabAt wr bt bm es
 kinds : KindsAt wr
 kindsLt : 0 < w.heap.size
 bt_ge : w.heap.size ≤ bt
 bm_ge : w.heap.size ≤ bm
 ne : bt ≠ bm
 below : Below w.heap.size w wr
theorem MadeInv.fr {w wr wr' : World} {bt bm : Nat} {es es' : List (OpK × OpV)} (h : MadeInv w bt bm es wr) (hF : Fr (· = bm) wr wr') (ht : TabAt wr' bt bm es') : MadeInv w bt bm es' wr' := by
 have h1 := h.kindsLt
 have h2 := h.bm_ge
 have h3 := h.below.size
 exact ⟨ht, h.kinds.keep (hF.block _ (by omega) (by omega)), h1, h.bt_ge, h2, h.ne, h.below.trans (hF.below (by omega) (by omega))⟩
end Go.Proofs.YtcallkljcjimiaaGreatDoor
