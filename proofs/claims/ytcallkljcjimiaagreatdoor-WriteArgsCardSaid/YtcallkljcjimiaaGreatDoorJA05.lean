import Derived.Test.YtcallkljcjimiaaGreatDoorJA01
import Derived.Test.YtcallkljcjimiaaGreatDoorJA04
import Derived.Test.YtcallkljcjimiaaGreatDoorJW42
import Derived.Test.YtcallkljcjimiaaGreatDoorProg
import Derived.KernelRfl
import Derived.WalkKit
import Derived.WalkSmall
import Derived.Lib.Hide
import Derived.Laws.AppendOwn
import Derived.Laws.MakeOwn
import Derived.Deep.OwnRows
import Derived.Laws.AppendOwnNone
import Derived.Deep.AppendLies
import Derived.Deep.RegionLaw
import Derived.WalkSpells
import Derived.BigQuiet
import Derived.Deep.QuietTactic
import Derived.StillTailTactics
import Derived.IntWalk
import Derived.Maps.Keyed
import Derived.StringKeys
import Derived.Lib.ItoaMem
import Derived.Lib.ItoaNum
import Derived.LoopTactic
import Derived.Shelf.Small.Strs
import Derived.Shelf.Strings.Search1
import Derived.Shelf.Strings.Search2
import Derived.Shelf.Strings.Search3
import Derived.Shelf.Strings.Count
import Derived.Shelf.LaysM
import Derived.Shelf.Strings.Shaped
import Derived.Shelf.Strings.Prefix
import Derived.LoopN
import Derived.Laws.IdiomStrings
import Derived.Laws.BytesArg
import Derived.Shelf.Strconv.Itoa4
import Derived.Lib.AppendStr
import Derived.Deep.RegionHeld3
import Derived.Deep.Cut
import Derived.Deep.CutRange
import Derived.Deep.DeepCutAuto
import Derived.Deep.LoopGhost
import Derived.Laws.EntriesVeiled
import Derived.Laws.OwnMore
import Derived.Deep.DrawnRows
import Derived.Defers
import Derived.Recover
import Derived.Laws.DeepStrings4
import Derived.Lib.Index
import Derived.Shelf.Small.Wraps
import Derived.Shelf.Strings.Fields
import Derived.Laws.CopyRow
namespace Go.Proofs.YtcallkljcjimiaaGreatDoor
open Go.RowKit Go.Maps
set_option maxRecDepth 100000
theorem PartsIn.later {u u' : World} {A : Option Addr} {n c : Nat} (h : PartsIn u A n c) (hb : Below u.heap.size u u') : PartsIn u' A n c := fun hn => by
 obtain ⟨l, h1, h2, h3, h4⟩ := h hn
 exact ⟨l, h1, h2, h3.later hb, h4⟩
def canT (t : Tm) : List UInt8 := wrT opsInit 2 t 1200
structure CanOk (t : Tm) : Prop where
 wf : WfT t
 size : t.size ≤ 20000
 deep : t.deep ≤ 2000
set_option maxHeartbeats 8000000 in
theorem can_any (w : World) (bo bt bm : Nat) (hc : w.cell? ⟨bo, 0, none⟩ = some (.pointer (some ⟨bt, 0, none⟩))) (hT : TabAt w bt bm opsInit) (hE : WrT w) (x : TV) (t : Tm) (hx : TermAt w w.heap.size x t) (ht : CanOk t) :
    Calls Tryz.prog 24 #[tvV x, .pointer (some ⟨bo, 0, none⟩)] w fun e w' => e = .returned (.string ⟨(canT t).toArray⟩) ∧ Below w.heap.size w w' := by
 have hp := put_good (es := opsInit) (way := 2) (.inr (.inr rfl)) (check_wf ht.wf ht.size ht.deep)
 obtain ⟨X, hX⟩ : ∃ X, X = canT t := ⟨_, rfl⟩
 rw [← hX]
 have hp : putF opsInit 2 t = (X, 0) := by rw [hp, hX]; rfl
 have HP := Lib.hid hp
 obtain ⟨W, hW⟩ : ∃ W, W = w.alloc (.cells #[.int .i64 x.k, .int .i64 x.n, .string ⟨x.s.toArray⟩, .slice x.A x.len x.cap] 28) := ⟨_, rfl⟩
 have hbW : Below w.heap.size w W := by rw [hW]; exact (Below.refl _ _).alloc (Nat.le_refl _) _
 have hx0 : W.heap[w.heap.size]? = some (.cells #[.int .i64 x.k, .int .i64 x.n, .string ⟨x.s.toArray⟩, .slice x.A x.len x.cap] 28 (0, 0)) := by rw [hW]; exact heap_alloc_new _ _
 have hc0 : W.cell? ⟨bo, 0, none⟩ = some (.pointer (some ⟨bt, 0, none⟩)) := (hbW.cell (p := ⟨bo, 0, none⟩) (World.block_lt_of_cell? w _ hc)).trans hc
 have HB := Lib.hid hbW
 have HPUT := Lib.hid (wput_any W x t bt bm opsInit 2 (hx.later hbW) ht.wf.fits (by have := ht.size; omega) (by have := ht.deep; omega) (hE.later hbW) (hT.later hbW))
 obtain ⟨f0, f1, f2, f3, -⟩ := four_at hx0
 rw [tvV_lit] at HPUT ⊢
 clear hX hp hbW hx0 hc hT hE hx ht
 go_enter Tryz.func24, Tryz.ntmps24
 go_upto_region 1 with fail
 rw [← hW]
 clear hW
 go_wp2_with fail
 refine HPUT.out.mono ?_
 rintro e W2 ⟨rfl, hb2⟩
 rw [HP.out]
 dsimp only
 have HF := Lib.hid (HB.out.trans (hb2.mono HB.out.size))
 clear hb2
 go_wp2_with fail
 go_ret
 exact ⟨rfl, HF.out⟩
section
variable {w w' : World} {B B0 : Nat} {Dn : List (Loc × Tm)} {Pd : List (Loc × Tm × Tm)}
theorem RenAt.keep (h : RenAt w B B0 Dn Pd) (hb : ∀ k, (k < B0 ∨ TyB w 28 k) → w'.heap[k]? = w.heap[k]?) : RenAt w' B B0 Dn Pd := by
 have hl : ∀ p, p ∈ Dn.map (·.1) ++ Pd.map (·.1) → w'.heap[p.1]? = w.heap[p.1]? := fun p hp => hb _ (.inr (h.loc p hp).2.1)
 refine ⟨h.nd, fun p hp => ⟨(h.loc p hp).1, (h.loc p hp).2.1.keep (hl p hp), (h.loc p hp).2.2⟩, fun p T hp => ?_, fun p t T hp => ?_, h.low⟩
 ·obtain ⟨h0, sl, h1, h2⟩ := h.dn p T hp
  exact ⟨h0, sl, h1.keep (hl p (List.mem_append_left _ (List.mem_map_of_mem hp))), h2⟩
 ·obtain ⟨x, h1, h2⟩ := h.pd p t T hp
  exact ⟨x, h1.keep (hl p (List.mem_append_right _ (List.mem_map_of_mem hp))), h2.keep (Nat.le_refl _) fun k hk => hb k (.inl hk)⟩
theorem RenAt.later (h : RenAt w B B0 Dn Pd) (hB : B0 ≤ w.heap.size) (hb : Below w.heap.size w w') : RenAt w' B B0 Dn Pd := h.keep fun k hk => hb.block k (by rcases hk with hk | hk; omega; exact hk.lt)
end
end Go.Proofs.YtcallkljcjimiaaGreatDoor
