import Derived.Test.YtcallkljcjimiaaGreatDoorJA00
import Derived.Test.YtcallkljcjimiaaGreatDoorJW10
import Derived.Test.YtcallkljcjimiaaGreatDoorJW14
import Derived.LoopTactic
import Derived.Deep.LoopGhost
import Derived.IntWalk
import Derived.WalkKit
import Derived.WalkSmall
import Derived.Laws.AppendOwn
import Derived.Laws.MakeOwn
import Derived.Deep.OwnRows
import Derived.Laws.AppendOwnNone
import Derived.Deep.AppendLies
import Derived.Deep.RegionLaw
import Derived.Lib.Hide
import Derived.WalkSpells
import Derived.Test.YtcallkljcjimiaaGreatDoorProg
import Derived.KernelRfl
import Derived.BigQuiet
import Derived.Deep.QuietTactic
import Derived.StillTailTactics
import Derived.Maps.Keyed
import Derived.StringKeys
import Derived.Lib.ItoaMem
import Derived.Lib.ItoaNum
import Derived.Deep.Cut
import Derived.Deep.CutRange
import Derived.Deep.DeepCutAuto
import Derived.Deep.RegionHeld3
namespace Go.Proofs.YtcallkljcjimiaaGreatDoor
open Go.RowKit
set_option maxRecDepth 100000
theorem WalkInv.below {w : World} {b B : Nat} {st : List AbT} {pd : List (Tm × Nat)} {m : Meas} {v : Value} {u : World} (h : WalkInv w b B st pd m v u) (hB : B ≤ b) (hb : b < w.heap.size) : Below B w u := h.fr.below (by omega) (fun k hk => by omega)
theorem operF_can (es : List (OpK × OpV)) (t : Tm) : operF es 2 t = none := by
 unfold operF
 simp
theorem can_step (es : List (OpK × OpV)) (g : Tm → Int → List UInt8) (t : Tm) (m m' : Int) : wrStep es 2 g t m = wrStep es 2 g t m' := by
 unfold wrStep compF
 rw [operF_can]
theorem can_most (es : List (OpK × OpV)) (t : Tm) (m m' : Int) : wrT es 2 t m = wrT es 2 t m' := by
 rw [wrT_step, wrT_step es 2 t m']
 exact can_step ..
theorem can_pair (es : List (OpK × OpV)) (s : List UInt8) (x y : Tm) (m : Int) (h : s ≠ [46]) :
    wrT es 2 (compT s [x, y]) m = textF 2 s ++ (40 :: (wrT es 2 x 1200 ++ (44 :: (wrT es 2 y 1200 ++ [41])))) := by
 rw [wrT_step, can_most es x 1200 999, can_most es y 1200 999]
 have hc : consT (compT s [x, y]) = false := by
  unfold consT compT
  simp [Tm.s, h]
 have k1 : ¬ (compT s [x, y]).k = 1 := by unfold compT; simp [Tm.k]
 have k2 : ¬ (compT s [x, y]).k = 2 := by unfold compT; simp [Tm.k]
 have k3 : ¬ (compT s [x, y]).k = 3 := by unfold compT; simp [Tm.k]
 unfold wrStep compF
 rw [operF_can, hc, if_neg k1, if_neg k2, if_neg k3, if_neg (by decide), if_neg (fun e => e.1 rfl)]
 show textF 2 s ++ 40 :: ((wrT es 2 x 999 ++ 44 :: wrT es 2 y 999) ++ [41]) = _
 simp
theorem can_atom (es : List (OpK × OpV)) (s : List UInt8) (m : Int) : wrT es 2 (atomT s) m = textF 2 s := by
 rw [wrT_step]
 rfl
theorem consF_nil (k : Nat) : consF k nilT = ([], nilT) := by
 cases k with
 | zero => rfl
 | succ k => rfl
theorem can_list (es : List (OpK × OpV)) (x y : Tm) (m : Int) :
    wrT es 2 (listT [x, y] nilT) m = 91 :: (wrT es 2 x 1200 ++ (44 :: (wrT es 2 y 1200 ++ [93]))) := by
 have hl : listT [x, y] nilT = compT [46] [x, compT [46] [y, nilT]] := rfl
 rw [hl, wrT_step, can_most es x 1200 999, can_most es y 1200 999]
 have k1 : ∀ l, ¬ (compT [46] l).k = 1 := fun l => by unfold compT; simp [Tm.k]
 have k2 : ∀ l, ¬ (compT [46] l).k = 2 := fun l => by unfold compT; simp [Tm.k]
 have k3 : ∀ l, ¬ (compT [46] l).k = 3 := fun l => by unfold compT; simp [Tm.k]
 have hc : ∀ a b : Tm, consT (compT [46] [a, b]) = true := fun a b => by unfold consT compT; simp [Tm.s, Tm.k, Tm.args]
 obtain ⟨k, hk⟩ : ∃ k, (compT [46] [x, compT [46] [y, nilT]]).size = k + 2 := by
  refine ⟨(compT [46] [x, compT [46] [y, nilT]]).size - 2, ?_⟩
  have h1 : (compT [46] [x, compT [46] [y, nilT]]).size = 1 + (x.size + ((compT [46] [y, nilT]).size + 0)) := by
   unfold compT
   rw [Tm.size, Tm.sizes, Tm.sizes, Tm.sizes]
  have h2 := size_pos x
  have h3 := size_pos (compT [46] [y, nilT])
  omega
 have h2 : consF (k + 1) (compT [46] [y, nilT]) = ([y], nilT) := by
  rw [consF, if_pos (hc y nilT)]
  show (y :: (consF k nilT).1, (consF k nilT).2) = _
  rw [consF_nil]
 have h1 : consF (k + 2) (compT [46] [x, compT [46] [y, nilT]]) = ([x, y], nilT) := by
  rw [consF, if_pos (hc x _)]
  show (x :: (consF (k + 1) (compT [46] [y, nilT])).1, (consF (k + 1) (compT [46] [y, nilT])).2) = _
  rw [h2]
 unfold wrStep compF
 rw [if_neg (k1 _), if_neg (k2 _), if_neg (k3 _), if_pos (hc _ _)]
 unfold listF
 rw [hk, h1]
 show 91 :: ((wrT es 2 x 999 ++ 44 :: wrT es 2 y 999) ++ (tailF (wrT es 2) nilT ++ [93])) = _
 have ht : tailF (wrT es 2) nilT = [] := by
  unfold tailF
  rw [if_pos ⟨rfl, rfl⟩]
 rw [ht]
 simp
theorem quo_can (es : List (OpK × OpV)) (t : Tm) (m : Int) (h : t.k = 1 ∨ t.k = 2 ∨ t.k = 3) : wrT es 1 t m = wrT es 2 t m := by
 rw [wrT_step, wrT_step es 2]
 unfold wrStep
 rcases h with h | h | h
 ·rw [if_pos h, if_pos h]
 ·have h1 : ¬ t.k = 1 := by omega
  rw [if_neg h1, if_neg h1, if_pos h, if_pos h]
 ·have h1 : ¬ t.k = 1 := by omega
  have h2 : ¬ t.k = 2 := by omega
  rw [if_neg h1, if_neg h1, if_neg h2, if_neg h2, if_pos h, if_pos h]
  rfl
theorem wf_pair {s : List UInt8} {x y : Tm} (hs : s.length ≤ 1000) (hx : WfT x) (hy : WfT y) : WfT (compT s [x, y]) := by
 refine ⟨?_, ?_⟩
 ·unfold compT
  rw [Tm.may, Tm.mays, Tm.mays, Tm.mays, hx.may, hy.may]
  simp [mayP, hs]
 ·unfold compT
  rw [Tm.fits, Tm.fitss, Tm.fitss, Tm.fitss, hx.fits, hy.fits]
  simp
theorem wf_atom {s : List UInt8} (hs : s.length ≤ 1000) : WfT (atomT s) := by
 refine ⟨?_, ?_⟩
 ·unfold atomT
  rw [Tm.may, Tm.mays]
  simp [mayP, hs]
 ·unfold atomT
  rw [Tm.fits, Tm.fitss]
  simp
theorem pair_size (s : List UInt8) (x y : Tm) : (compT s [x, y]).size = 1 + x.size + y.size := by
 unfold compT
 rw [Tm.size, Tm.sizes, Tm.sizes, Tm.sizes]
 omega
theorem pair_deep (s : List UInt8) (x y : Tm) : (compT s [x, y]).deep = 1 + max x.deep y.deep := by
 unfold compT
 rw [Tm.deep, Tm.deeps, Tm.deeps, Tm.deeps]
 omega
theorem atom_size (s : List UInt8) : (atomT s).size = 1 ∧ (atomT s).deep = 1 := ⟨rfl, rfl⟩
theorem check_wf {t : Tm} (h : WfT t) (h1 : t.size ≤ 20000) (h2 : t.deep ≤ 2000) : checkT t = 0 := by
 unfold checkT
 rw [h.may, if_neg (by decide), if_neg (by omega), if_neg (by omega)]
open Go.RowKit Go.Maps
theorem RdAt.drew {u : World} {rb : Nat} {v : RdV} {ts : List Tok} {s : RdS} {B : Nat} (h : RdAt u rb v ts s B) : RdAt u.drew rb v ts s B := h.later (Below.refl _ _).drew
end Go.Proofs.YtcallkljcjimiaaGreatDoor
