import Derived.Test.YtcallkljcjimiaaGreatDoorJG05
import Derived.Test.YtcallkljcjimiaaGreatDoorJW34
import Derived.Test.YtcallkljcjimiaaGreatDoorProg
import Derived.KernelRfl
import Derived.WalkKit
import Derived.WalkSmall
import Derived.Lib.Hide
import Derived.Laws.AppendOwn
import Derived.Laws.MakeOwn
import Derived.Deep.OwnRows
import Derived.Laws.AppendOwnNone
import Derived.Deep.AppendLies
import Derived.Deep.RegionLaw
import Derived.WalkSpells
import Derived.BigQuiet
import Derived.Deep.QuietTactic
import Derived.StillTailTactics
import Derived.IntWalk
import Derived.Maps.Keyed
import Derived.StringKeys
import Derived.Lib.ItoaMem
import Derived.Lib.ItoaNum
import Derived.Shelf.Small.Strs
import Derived.Shelf.Small.Wraps
import Derived.Shelf.LaysM
import Derived.Shelf.Strings.Fields
import Derived.Deep.Cut
import Derived.Deep.CutRange
import Derived.Deep.DeepCutAuto
import Derived.Deep.RegionHeld3
namespace Go.Proofs.YtcallkljcjimiaaGreatDoor
def posF : List Int → Int → Option Nat
 | [], _ => none
 | x :: r, n => if x = n then some 0 else (posF r n).map (· + 1)
mutual
def nrT (seen : List Int) : Tm → Tm × List Int
 | .mk k n s l => if k = 1 then (match posF seen n with | some i => (varT (i : Int), seen) | none => (varT (seen.length : Int), seen ++ [n])) else ((.mk k n s (nrTs seen l).1), (nrTs seen l).2)
def nrTs (seen : List Int) : List Tm → List Tm × List Int
 | [] => ([], seen)
 | t :: r => ((nrT seen t).1 :: (nrTs (nrT seen t).2 r).1, (nrTs (nrT seen t).2 r).2)
end
def varsOf : Nat → List Int → List (List UInt8 × Int)
 | _, [] => []
 | k, n :: r => (95 :: Lib.itoa n, (k : Int)) :: varsOf (k + 1) r
theorem varsOf_snoc : ∀ (l : List Int) (k : Nat) (n : Int), varsOf k (l ++ [n]) = varsOf k l ++ [(95 :: Lib.itoa n, ((k + l.length : Nat) : Int))]
 | [], k, n => rfl
 | x :: l, k, n => by
  rw [List.cons_append, varsOf, varsOf_snoc l (k + 1) n, varsOf, List.length_cons, show k + 1 + l.length = k + (l.length + 1) by omega]
  rfl
theorem itoa_inj {a b : Int} (ha : 0 ≤ a ∧ a ≤ 9223372036854775807) (hb : 0 ≤ b ∧ b ≤ 9223372036854775807) (h : Lib.itoa a = Lib.itoa b) : a = b := by
 obtain ⟨u, rfl⟩ : ∃ u : Nat, a = (u : Int) := ⟨a.toNat, by omega⟩
 obtain ⟨v, rfl⟩ : ∃ v : Nat, b = (v : Int) := ⟨b.toNat, by omega⟩
 rw [Lib.itoa_nonneg, Lib.itoa_nonneg] at h
 have h1 := parse_dec u (by omega)
 have h2 := parse_dec v (by omega)
 rw [h, h2] at h1
 have h3 := (Prod.mk.injEq .. ▸ h1).1
 rw [tops_small (by omega), tops_small (by omega)] at h3
 omega
def Fit (seen : List Int) : Prop := ∀ n ∈ seen, 0 ≤ n ∧ n ≤ 9223372036854775807
theorem find_vars (n : Int) (hn : 0 ≤ n ∧ n ≤ 9223372036854775807) : ∀ (l : List Int) (k : Nat), Fit l →
    (varsOf k l).find? (fun y => decide (y.1 = 95 :: Lib.itoa n)) = (posF l n).map fun i => (95 :: Lib.itoa n, ((k + i : Nat) : Int))
 | [], _, _ => rfl
 | x :: l, k, h => by
  rw [varsOf, List.find?_cons, posF]
  by_cases hx : x = n
  ·subst hx
   simp
  ·have h1 : ¬ (95 :: Lib.itoa x = 95 :: Lib.itoa n) := fun e => hx (itoa_inj (h x (by simp)) hn (List.cons.inj e).2)
   have ih := find_vars n hn l (k + 1) fun y hy => h y (List.mem_cons_of_mem _ hy)
   simp only [decide_eq_false h1]
   rw [ih, if_neg hx, Option.map_map]
   congr 1
   funext i
   show _ = (95 :: Lib.itoa n, ((k + (i + 1) : Nat) : Int))
   rw [show k + 1 + i = k + (i + 1) by omega]
theorem dec_ne_nil (n : Int) : Lib.itoa n ≠ [] := by
 unfold Lib.itoa
 split
 ·simp
 ·exact dec_ne _
structure TabOk (o : OpsF) : Prop where
 pre : ∀ n, (o.pre n).1 = 0 ∨ (1 ≤ (o.pre n).1 ∧ (o.pre n).1 ≤ 1200 ∧ (o.pre n).1 - 1 ≤ (o.pre n).2 ∧ (o.pre n).2 ≤ (o.pre n).1)
 inf : ∀ n, (o.inf n).1 = 0 ∨ (1 ≤ (o.inf n).1 ∧ (o.inf n).1 ≤ 1200 ∧ (o.inf n).1 - 1 ≤ (o.inf n).2.1 ∧ (o.inf n).2.1 ≤ (o.inf n).1 ∧ (o.inf n).1 - 1 ≤ (o.inf n).2.2 ∧ (o.inf n).2.2 ≤ (o.inf n).1 ∧ ((o.inf n).2.1 = (o.inf n).1 → (o.inf n).2.2 ≠ (o.inf n).1))
 post : ∀ n, (o.post n).1 = 0 ∨ (1 ≤ (o.post n).1 ∧ (o.post n).1 ≤ 1200 ∧ (o.post n).1 - 1 ≤ (o.post n).2 ∧ (o.post n).2 ≤ (o.post n).1)
 apart : ∀ n, (o.inf n).1 = 0 ∨ (o.post n).1 = 0
 comma : (o.inf [44]).1 = 1000 ∧ (o.post [44]).1 = 0 ∧ (o.pre [44]).1 = 0
 nil : ∀ n, n = [91, 93] ∨ n = [123, 125] → (o.pre n).1 = 0 ∧ (o.inf n).1 = 0 ∧ (o.post n).1 = 0
def AtL (ts : List Tok) (i : Nat) (l : List Lxm) : Prop := ∃ first, ts.drop i = tkL first l ++ [endTok 1]
theorem drop_peek {ts : List Tok} {i : Nat} {t : Tok} {r : List Tok} (h : ts.drop i = t :: r) : peekF ts i = t ∧ ts.drop (i + 1) = r := by
 refine ⟨?_, by rw [← List.drop_drop, h]; rfl⟩
 have h1 := congrArg List.head? h
 rw [List.head?_drop] at h1
 unfold peekF
 rw [List.getD_eq_getElem?_getD, h1]
 rfl
theorem at_head {ts : List Tok} {i : Nat} {a : Lxm} {r : List Lxm} (h : AtL ts i (a :: r)) :
    (peekF ts i).kind = a.kind ∧ (peekF ts i).n = a.n ∧ (peekF ts i).s = a.s ∧ (peekF ts i).opn = opnL r ∧ ts.drop (i + 1) = tkL false r ++ [endTok 1] := by
 obtain ⟨first, h⟩ := h
 rw [tkL, List.cons_append] at h
 obtain ⟨h1, h2⟩ := drop_peek h
 rw [h1]
 exact ⟨rfl, rfl, rfl, rfl, h2⟩
theorem at_next {ts : List Tok} {i : Nat} {a : Lxm} {r : List Lxm} (h : AtL ts i (a :: r)) : AtL ts (i + 1) r := ⟨false, (at_head h).2.2.2.2⟩
theorem at_tight {ts : List Tok} {i : Nat} {a b : Lxm} {r : List Lxm} (h : AtL ts i (a :: b :: r)) : (peekF ts (i + 1)).tight = !b.sp := by
 have h1 := (at_head h).2.2.2.2
 rw [tkL, List.cons_append] at h1
 rw [(drop_peek h1).1]
 rfl
theorem at_mark {ts : List Tok} {i : Nat} {a : Lxm} {r : List Lxm} (h : AtL ts i (a :: r)) (c : UInt8) : isP ts i c = (decide (a.kind = 6) && decide (a.s = [c])) := by
 obtain ⟨h1, -, h3, -⟩ := at_head h
 unfold isP
 rw [h1, h3]
theorem at_app {ts : List Tok} : ∀ (l r : List Lxm) (i : Nat), AtL ts i (l ++ r) → AtL ts (i + l.length) r
 | [], _, _, h => h
 | a :: l, r, i, h => by
  have h1 := at_app l r (i + 1) (at_next h)
  rwa [show i + 1 + l.length = i + (a :: l).length by rw [List.length_cons]; omega] at h1
def RdS.put (s : RdS) (k : Nat) (x : Tm × List Int) (p : Int) : RdS := ⟨s.at' + k, s.wait, s.most, true, x.1, p, varsOf 0 x.2, varsOf 0 x.2, (x.2.length : Int)⟩
structure SeenIs (s : RdS) (seen : List Int) : Prop where
 vars : s.vars = varsOf 0 seen
 names : s.names = varsOf 0 seen
 cnt : s.cnt = (seen.length : Int)
 fit : Fit seen
structure RestOk (o : OpsF) (b : Lxm) (rb : Int) (atm : Bool) : Prop where
 opn : (!b.sp && decide (b.txt.head? = some 40)) = false
 kind : b.kind = 1 ∨ b.kind = 2 ∨ b.kind = 6 ∨ b.kind = 7
 clos : b.kind = 6 → ¬ (b.s = [40] ∨ b.s = [91] ∨ b.s = [123])
 fol : (b.kind = 1 ∨ b.kind = 2 ∨ b.s = [44]) → (0 < (o.inf b.s).1 → rb < (o.inf b.s).1) ∧ (0 < (o.post b.s).1 → rb < (o.post b.s).1)
 atm : atm = true → b.kind = 6 ∨ b.kind = 7
theorem RestOk.less {o : OpsF} {b : Lxm} {rb rb' : Int} {a a' : Bool} (h : RestOk o b rb a) (hr : rb' ≤ rb) (ha : a' = true → a = true) : RestOk o b rb' a' :=
 ⟨h.opn, h.kind, h.clos, fun hk => ⟨fun h1 => by have := (h.fol hk).1 h1; omega, fun h1 => by have := (h.fol hk).2 h1; omega⟩, fun h1 => h.atm (ha h1)⟩
theorem RestOk.opnL {o : OpsF} {b : Lxm} {rb : Int} {a : Bool} (h : RestOk o b rb a) (r : List Lxm) : opnL (b :: r) = false := h.opn
theorem RestOk.noBegin {o : OpsF} {b : Lxm} {rb : Int} {a : Bool} (h : RestOk o b rb a) (ha : a = true) {ts : List Tok} {i : Nat} {r : List Lxm} (h2 : AtL ts i (b :: r)) : beginsF o (peekF ts i) = false := by
 obtain ⟨h3, -, h4, -⟩ := at_head h2
 unfold beginsF
 rw [h3, h4]
 rcases h.atm ha with hk | hk
 ·rw [if_neg (by omega), if_pos hk, decide_eq_false (h.clos hk)]
 ·rw [if_neg (by omega), if_neg (by omega), if_neg (by omega)]
theorem RestOk.noOp {o : OpsF} {b : Lxm} {rb : Int} {a : Bool} (h : RestOk o b rb a) {ts : List Tok} {s : RdS} {r : List Lxm} (h2 : AtL ts s.at' (b :: r)) (hm : s.most ≤ rb) : operatorF o ts s = none := by
 obtain ⟨h3, -, h4, -⟩ := at_head h2
 unfold operatorF
 simp only
 rw [h3, h4, at_mark h2]
 by_cases hk : b.kind ≠ 1 ∧ b.kind ≠ 2 ∧ (decide (b.kind = 6) && decide (b.s = [44])) = false
 ·rw [if_pos hk]
 ·rw [if_neg hk]
  have hk2 : b.kind = 1 ∨ b.kind = 2 ∨ b.s = [44] := by
   by_cases e1 : b.kind = 1
   ·exact .inl e1
   ·by_cases e2 : b.kind = 2
    ·exact .inr (.inl e2)
    ·refine .inr (.inr (Classical.byContradiction fun e3 => hk ⟨e1, e2, ?_⟩))
     rw [decide_eq_false e3, Bool.and_false]
  obtain ⟨f1, f2⟩ := h.fol hk2
  rw [if_neg (fun hh => by have := f1 hh.1; omega), if_neg (fun hh => by have := f2 hh.1; omega)]
theorem rest_p (o : OpsF) (H : TabOk o) (c : UInt8) (hc : c = 41 ∨ c = 44 ∨ c = 93 ∨ c = 124 ∨ c = 125) (rb : Int) (hr : c = 44 → rb ≤ 999) (a : Bool) : RestOk o (pL c) rb a := by
 refine ⟨?_, .inr (.inr (.inl rfl)), fun _ => ?_, fun h => ?_, fun _ => .inl rfl⟩
 ·rcases hc with rfl | rfl | rfl | rfl | rfl <;> rfl
 ·rcases hc with rfl | rfl | rfl | rfl | rfl <;> (show ¬ _; decide)
 ·rcases h with h | h | h
  ·exact absurd h (by show ¬ (6 : Int) = 1; decide)
  ·exact absurd h (by show ¬ (6 : Int) = 2; decide)
  ·have hc44 : c = 44 := by
    have h : [c] = [44] := h
    exact (List.cons.inj h).1
   subst hc44
   obtain ⟨h1, h2, -⟩ := H.comma
   show (0 < (o.inf [44]).1 → rb < (o.inf [44]).1) ∧ (0 < (o.post [44]).1 → rb < (o.post [44]).1)
   rw [h1, h2]
   exact ⟨fun _ => by have := hr rfl; omega, fun h => absurd h (by decide)⟩
def Reads (o : OpsF) (ts : List Tok) (l : List Lxm) (t : Tm) (pr rb : Int) (atm : Bool) : Prop :=
 ∀ (s : RdS) (seen : List Int) (b : Lxm) (r : List Lxm), s.hv = false → SeenIs s seen → AtL ts s.at' (l ++ b :: r) → pr ≤ s.most → RestOk o b rb atm →
  endF o ts s = endF o ts (s.put l.length (nrT seen t) pr)
section
variable {o : OpsF} {ts : List Tok}
theorem at_unsp {i : Nat} {l r : List Lxm} (hne : l ≠ []) (h : AtL ts i (spL l ++ r)) : AtL ts i (l ++ r) := by
 obtain ⟨first, h⟩ := h
 cases l with
 | nil => exact absurd rfl hne
 | cons a y =>
  refine ⟨true, ?_⟩
  rw [h]
  show tkL first ({ a with sp := true } :: (y ++ r)) ++ [endTok 1] = tkL true (a :: (y ++ r)) ++ [endTok 1]
  rw [tkL, tkL]
  simp
theorem RdS.eq {s t : RdS} (h1 : s.at' = t.at') (h2 : s.wait = t.wait) (h3 : s.most = t.most) (h4 : s.hv = t.hv) (h5 : s.t = t.t) (h6 : s.pri = t.pri) (h7 : s.vars = t.vars) (h8 : s.names = t.names) (h9 : s.cnt = t.cnt) : s = t := by
 cases s
 cases t
 simp_all
theorem round_prim' {s : RdS} (hv : s.hv = false) {s1 : RdS} (h : primaryF o ts s = .ok s1) : endF o ts s = endF o ts s1 := on_end (by unfold roundF; rw [if_pos hv, h]; rfl)
theorem lx_round_op {s : RdS} (hv : s.hv = true) {s1 : RdS} (h : operatorF o ts s = some s1) : endF o ts s = endF o ts s1 := on_end (by unfold roundF; rw [if_neg (by rw [hv]; decide), h])
theorem lx_round_back {s : RdS} (hv : s.hv = true) (h : operatorF o ts s = none) {f : WaitF} {r : List WaitF} (hw : s.wait = f :: r) {s1 : RdS} (hb : backF ts s f r = .ok s1) : endF o ts s = endF o ts s1 := on_end (by unfold roundF; rw [if_neg (by rw [hv]; decide), h, hw]; simp only; rw [hb]; rfl)
theorem SeenIs.after {s : RdS} {x : Tm × List Int} {k : Nat} {p : Int} (h : Fit x.2) : SeenIs (s.put k x p) x.2 := ⟨rfl, rfl, rfl, h⟩
theorem put_same {s : RdS} {seen : List Int} (h : SeenIs s seen) (k : Nat) (t : Tm) (p : Int) : s.put k (t, seen) p = (s.go k).done t p :=
 RdS.eq rfl rfl rfl rfl rfl rfl h.vars.symm h.names.symm h.cnt.symm
theorem SeenIs.await {s : RdS} {seen : List Int} (h : SeenIs s seen) (k : Nat) (f : WaitF) (m : Int) : SeenIs ((s.go k).await f m) seen := ⟨h.vars, h.names, h.cnt, h.fit⟩
theorem SeenIs.again {s : RdS} {seen : List Int} (h : SeenIs s seen) (k : Nat) (f : WaitF) (m : Int) : SeenIs ((s.go k).again f m) seen := ⟨h.vars, h.names, h.cnt, h.fit⟩
end
theorem wf_var {t : Tm} (h : WfT t) (hk : t.k = 1) : t = varT t.n := by
 obtain ⟨k, n, s, l⟩ := t
 have h1 := h.may
 rw [Tm.may, Bool.and_eq_true] at h1
 have h1 := h1.1
 have hk : k = 1 := hk
 subst hk
 unfold mayP at h1
 rw [if_pos rfl] at h1
 obtain ⟨_, h2, h3⟩ := of_decide_eq_true h1
 rw [h2, List.eq_nil_of_length_eq_zero h3]
 rfl
theorem wf_int {t : Tm} (h : WfT t) (hk : t.k = 2) : t = intT t.n := by
 obtain ⟨k, n, s, l⟩ := t
 have h1 := h.may
 rw [Tm.may, Bool.and_eq_true] at h1
 have h1 := h1.1
 have hk : k = 2 := hk
 subst hk
 unfold mayP at h1
 rw [if_neg (by decide), if_pos rfl] at h1
 obtain ⟨h2, h3⟩ := of_decide_eq_true h1
 rw [h2, List.eq_nil_of_length_eq_zero h3]
 rfl
theorem wf_atom {t : Tm} (h : WfT t) (hk : t.k = 3) : t = atomT t.s := by
 obtain ⟨k, n, s, l⟩ := t
 have h1 := h.may
 rw [Tm.may, Bool.and_eq_true] at h1
 have h1 := h1.1
 have hk : k = 3 := hk
 subst hk
 unfold mayP at h1
 rw [if_neg (by decide), if_neg (by decide), if_pos rfl] at h1
 obtain ⟨h2, _, h3⟩ := of_decide_eq_true h1
 rw [h2, List.eq_nil_of_length_eq_zero h3]
 rfl
theorem wf_comp {t : Tm} (h : WfT t) (hk : t.k = 4) : t = compT t.s t.args := by
 obtain ⟨k, n, s, l⟩ := t
 have h1 := h.may
 rw [Tm.may, Bool.and_eq_true] at h1
 have h1 := h1.1
 have hk : k = 4 := hk
 subst hk
 unfold mayP at h1
 rw [if_neg (by decide), if_neg (by decide), if_neg (by decide), if_pos rfl] at h1
 obtain ⟨h2, _⟩ := of_decide_eq_true h1
 rw [h2]
 rfl
theorem nrT_leaf (seen : List Int) {k n : Int} {s : List UInt8} (hk : k ≠ 1) : nrT seen (.mk k n s []) = (.mk k n s [], seen) := by
 rw [nrT, if_neg hk, nrTs]
theorem nrT_comp (seen : List Int) (s : List UInt8) (l : List Tm) : nrT seen (compT s l) = (compT s (nrTs seen l).1, (nrTs seen l).2) := by
 unfold compT
 rw [nrT, if_neg (by decide)]
mutual
theorem fit_nrT : ∀ (t : Tm) (seen : List Int), WfT t → Fit seen → Fit (nrT seen t).2
 | .mk k n s l, seen, h, hs => by
  rw [nrT]
  by_cases hk : k = 1
  ·rw [if_pos hk]
   have hp := var_pos h hk
   have hf := h.n
   cases posF seen n with
   | some i => exact hs
   | none =>
    intro m hm
    rcases List.mem_append.1 hm with h1 | h1
    ·exact hs m h1
    ·rw [List.mem_singleton.1 h1]
     exact ⟨hp, hf.2⟩
  ·rw [if_neg hk]
   exact fit_nrTs l seen (fun x hx => h.mem hx) hs
theorem fit_nrTs : ∀ (l : List Tm) (seen : List Int), (∀ x ∈ l, WfT x) → Fit seen → Fit (nrTs seen l).2
 | [], seen, _, hs => by rw [nrTs]; exact hs
 | t :: r, seen, h, hs => by
  rw [nrTs]
  exact fit_nrTs r _ (fun x hx => h x (List.mem_cons_of_mem _ hx)) (fit_nrT t seen (h t (List.mem_cons_self ..)) hs)
end
section
variable {o : OpsF} {ts : List Tok}
theorem reads_var {t : Tm} (hw : WfT t) (hk : t.k = 1) (rb : Int) (a : Bool) : Reads o ts [vrL t.n] t 0 rb a := by
 intro s seen b r hv hs ha hm hr
 obtain ⟨h1, -, h3, -, -⟩ := at_head ha
 refine round_prim' hv ?_
 unfold primaryF
 simp only
 rw [h1, if_neg (by show ¬ (4 : Int) = 3; decide), if_pos (by rfl), h3]
 congr 1
 have hp : 0 ≤ t.n ∧ t.n ≤ 9223372036854775807 := ⟨var_pos hw hk, hw.n.2⟩
 have hf := find_vars t.n hp seen 0 hs.fit
 have ht := wf_var hw hk
 generalize t.n = n at *
 subst ht
 show varF (s.go 1) (95 :: Lib.itoa n) = _
 have hne : ¬ (95 :: Lib.itoa n = [95]) := fun e => dec_ne_nil n (List.cons.inj e).2
 unfold varF
 rw [show (s.go 1).vars = varsOf 0 seen from hs.vars, hf]
 unfold varT
 rw [nrT, if_pos rfl]
 cases posF seen n with
 | some i =>
  simp only [Option.map_some, Nat.zero_add]
  exact RdS.eq rfl rfl rfl rfl rfl rfl hs.vars hs.names hs.cnt
 | none =>
  simp only [Option.map_none]
  rw [if_neg hne]
  have hsn := varsOf_snoc seen 0 n
  rw [Nat.zero_add] at hsn
  refine RdS.eq rfl rfl rfl rfl ?_ rfl ?_ ?_ ?_
  ·show varT (s.go 1).cnt = varT _
   rw [show (s.go 1).cnt = (seen.length : Int) from hs.cnt]
  ·show varsOf 0 seen ++ [(95 :: Lib.itoa n, s.cnt)] = varsOf 0 (seen ++ [n])
   rw [hsn, hs.cnt]
  ·show s.names ++ [(95 :: Lib.itoa n, s.cnt)] = varsOf 0 (seen ++ [n])
   rw [hsn, hs.cnt, hs.names]
  ·show s.cnt + 1 = ((seen ++ [n]).length : Int)
   rw [hs.cnt, List.length_append]
   rfl
theorem reads_int {t : Tm} (hw : WfT t) (hk : t.k = 2) (rb : Int) (a : Bool) : Reads o ts (inL t.n) t 0 rb a := by
 intro s seen b r hv hs ha hm hr
 have hn := hw.n
 have ht := wf_int hw hk
 generalize t.n = n at *
 subst ht
 have he : nrT seen (intT n) = (intT n, seen) := nrT_leaf seen (by decide)
 rw [he, put_same hs]
 refine round_prim' hv ?_
 unfold inL at ha ⊢
 by_cases h0 : n < 0
 ·rw [if_pos h0] at ha ⊢
  obtain ⟨h1, -, h3, -, -⟩ := at_head ha
  have ha2 := at_next ha
  obtain ⟨g1, g2, -, -, -⟩ := at_head ha2
  have htg := at_tight ha
  unfold primaryF
  simp only
  rw [h1, if_neg (by show ¬ (1 : Int) = 3; decide), if_neg (by show ¬ (1 : Int) = 4; decide), if_neg (by show ¬ (1 : Int) = 5; decide), if_neg (by show ¬ (1 : Int) = 6; decide), if_pos (.inl rfl)]
  unfold atomF
  simp only
  rw [h1, h3, g1, htg, if_pos ⟨rfl, rfl, rfl, rfl⟩, g2]
  show Except.ok ((s.go 2).done (intT (negI (tops n.natAbs))) 0) = _
  rw [neg_tops (by omega), show -((n.natAbs : Nat) : Int) = n by omega]
  rfl
 ·rw [if_neg h0] at ha ⊢
  obtain ⟨h1, h2, -, -, -⟩ := at_head ha
  have hN : tops n.toNat = n := by rw [tops_small (by omega)]; omega
  unfold primaryF
  simp only
  rw [h1, if_pos (by rfl), h2]
  rw [show (numL n.toNat).n = n from hN, if_neg h0]
  rfl
theorem nm_one {s : List UInt8} (h : ¬ (s = [91, 93] ∨ s = [123, 125])) : ∃ a : Lxm, nmL s = [a] ∧ (a.kind = 1 ∨ a.kind = 2) ∧ a.s = s ∧ a.sp = false := by
 unfold nmL
 rw [if_neg h]
 refine ⟨_, rfl, ?_, rfl, rfl⟩
 show (if plainB s = true then (1 : Int) else 2) = 1 ∨ _
 cases plainB s with
 | true => exact .inl rfl
 | false => exact .inr rfl
theorem prim_atom {s : RdS} {a : Lxm} (h1 : (peekF ts s.at').kind = a.kind) (hk : a.kind = 1 ∨ a.kind = 2) : primaryF o ts s = atomF o ts s (peekF ts s.at') := by
 unfold primaryF
 simp only
 rw [h1, if_neg (by omega), if_neg (by omega), if_neg (by omega), if_neg (by omega), if_pos hk]
theorem prim_p {s : RdS} (h1 : (peekF ts s.at').kind = 6) : primaryF o ts s = punctF ts s (peekF ts s.at').s := by
 unfold primaryF
 simp only
 rw [h1, if_neg (by decide), if_neg (by decide), if_neg (by decide), if_pos rfl]
theorem prim_pair {s : RdS} {n : List UInt8} (hn : n = [91, 93] ∨ n = [123, 125]) {r : List Lxm} (ha : AtL ts s.at' (nmL n ++ r)) : primaryF o ts s = if opnL r then argsF ts (s.go 2) n else .ok ((s.go 2).done (atomT n) 0) := by
 rcases hn with rfl | rfl
 ·have hn : nmL [91, 93] = [pL 91, pL 93] := by unfold nmL; rw [if_pos (.inl rfl)]; rfl
  rw [hn] at ha
  obtain ⟨h1, -, h3, -, -⟩ := at_head ha
  have ha2 := at_next ha
  obtain ⟨-, -, -, g4, -⟩ := at_head ha2
  rw [prim_p h1, h3]
  unfold punctF
  rw [if_neg (by decide), if_pos (by rfl), at_mark ha2]
  rw [if_pos (by rfl)]
  unfold pairF
  simp only
  rw [h3, g4]
  rfl
 ·have hn : nmL [123, 125] = [pL 123, pL 125] := by unfold nmL; rw [if_pos (.inr rfl)]; rfl
  rw [hn] at ha
  obtain ⟨h1, -, h3, -, -⟩ := at_head ha
  have ha2 := at_next ha
  obtain ⟨-, -, -, g4, -⟩ := at_head ha2
  rw [prim_p h1, h3]
  unfold punctF
  rw [if_neg (by decide), if_neg (by decide), if_pos (by rfl), at_mark ha2]
  rw [if_pos (by rfl)]
  unfold pairF
  simp only
  rw [h3, g4]
  rfl
theorem reads_atom {t : Tm} (hw : WfT t) (hk : t.k = 3) (rb : Int) (a : Bool) (hb : 0 < (o.pre t.s).1 → a = true) : Reads o ts (nmL t.s) t 0 rb a := by
 intro s seen b r hv hs ha hm hr
 have ht := wf_atom hw hk
 generalize t.s = n at *
 subst ht
 have he : nrT seen (atomT n) = (atomT n, seen) := nrT_leaf seen (by decide)
 rw [he, put_same hs]
 refine round_prim' hv ?_
 by_cases hn : n = [91, 93] ∨ n = [123, 125]
 ·rw [prim_pair hn ha, hr.opnL]
  rcases hn with rfl | rfl <;> rfl
 ·obtain ⟨x, hx, hxk, hxs, -⟩ := nm_one hn
  rw [hx] at ha ⊢
  obtain ⟨h1, -, h3, h4, -⟩ := at_head ha
  have ha2 := at_next ha
  obtain ⟨g1, -, -, -, -⟩ := at_head ha2
  rw [prim_atom h1 hxk]
  unfold atomF
  simp only
  rw [h1, h3, h4, hxs, g1]
  have hop : opnL ([] ++ b :: r) = false := hr.opnL r
  rw [if_neg (fun h => by have := hr.kind; omega), if_neg (by rw [show opnL (List.append [] (b :: r)) = false from hop]; decide)]
  have hno : ¬ (0 < (o.pre n).1 ∧ (o.pre n).1 ≤ s.most ∧ beginsF o (peekF ts (s.at' + 1)) = true) := fun h => by
   have := hr.noBegin (hb h.1) ha2
   rw [this] at h
   exact absurd h.2.2 (by decide)
  rw [if_neg hno]
  rfl
theorem exp_ok {q : RdS} {c : UInt8} (h : isP ts q.at' c = true) : q.expect ts c = .ok (q.go 1) := by
 unfold RdS.expect
 rw [if_pos h]
theorem reads_paren (H : TabOk o) {l : List Lxm} {t : Tm} {pr rb : Int} {a : Bool} (h : Reads o ts l t pr rb a) (hp : pr ≤ 1200) (hrb : rb ≤ 1200) (rb' : Int) (a' : Bool) : Reads o ts (pL 40 :: (l ++ [pL 41])) t 0 rb' a' := by
 intro s seen b r hv hs ha hm hr
 rw [List.cons_append, List.append_assoc] at ha
 obtain ⟨h1, -, h3, -, -⟩ := at_head ha
 have ha2 := at_next ha
 have e1 : primaryF o ts s = .ok ((s.go 1).await ⟨0, 0, [], 0, []⟩ 1200) := by
  rw [prim_p h1, h3]
  unfold punctF
  rw [if_pos (by rfl)]
 rw [round_prim' hv e1]
 have hs1 := hs.await 1 ⟨0, 0, [], 0, []⟩ 1200
 have hR : RestOk o (pL 41) 1200 true := rest_p o H 41 (.inl rfl) 1200 (fun e => absurd e (by decide)) true
 rw [h ((s.go 1).await ⟨0, 0, [], 0, []⟩ 1200) seen (pL 41) (b :: r) rfl hs1 ha2 hp (hR.less hrb (fun _ => rfl))]
 have ha3 := at_app l (pL 41 :: b :: r) (s.at' + 1) ha2
 have hno : operatorF o ts (((s.go 1).await ⟨0, 0, [], 0, []⟩ 1200).put l.length (nrT seen t) pr) = none := hR.noOp ha3 (Int.le_refl _)
 refine lx_round_back rfl hno rfl ?_
 have hmk : isP ts (s.at' + 1 + l.length) 41 = true := by rw [at_mark ha3]; rfl
 unfold backF backG
 rw [if_pos rfl]
 rw [exp_ok (c := 41) hmk]
 show Except.ok _ = _
 congr 1
 refine RdS.eq ?_ rfl rfl rfl rfl rfl rfl rfl rfl
 show s.at' + 1 + l.length + 1 = s.at' + (pL 40 :: (l ++ [pL 41])).length
 simp only [List.length_cons, List.length_append, List.length_nil]
 omega
theorem reads_brace (H : TabOk o) {l : List Lxm} {t : Tm} {pr rb : Int} {a : Bool} (h : Reads o ts l t pr rb a) (hp : pr ≤ 1200) (hrb : rb ≤ 1200) (hh : ∃ x y, l = x :: y ∧ (x.kind = 6 → x.s ≠ [125])) (rb' : Int) (a' : Bool) : Reads o ts (pL 123 :: (l ++ [pL 125])) (compT [123, 125] [t]) 0 rb' a' := by
 intro s seen b r hv hs ha hm hr
 rw [List.cons_append, List.append_assoc] at ha
 obtain ⟨h1, -, h3, -, -⟩ := at_head ha
 have ha2 := at_next ha
 have e1 : primaryF o ts s = .ok ((s.go 1).await ⟨1, 0, [], 0, []⟩ 1200) := by
  rw [prim_p h1, h3]
  unfold punctF
  rw [if_neg (by decide), if_neg (by decide), if_pos (by rfl)]
  obtain ⟨x, y, rfl, hx⟩ := hh
  rw [if_neg]
  rw [at_mark (a := x) (r := y ++ ([pL 125] ++ b :: r)) ha2, Bool.and_eq_true, decide_eq_true_eq, decide_eq_true_eq]
  exact fun e => hx e.1 e.2
 rw [round_prim' hv e1]
 have hs1 := hs.await 1 ⟨1, 0, [], 0, []⟩ 1200
 have hR : RestOk o (pL 125) 1200 true := rest_p o H 125 (.inr (.inr (.inr (.inr rfl)))) 1200 (fun e => absurd e (by decide)) true
 rw [h ((s.go 1).await ⟨1, 0, [], 0, []⟩ 1200) seen (pL 125) (b :: r) rfl hs1 ha2 hp (hR.less hrb (fun _ => rfl))]
 have ha3 := at_app l (pL 125 :: b :: r) (s.at' + 1) ha2
 have hno : operatorF o ts (((s.go 1).await ⟨1, 0, [], 0, []⟩ 1200).put l.length (nrT seen t) pr) = none := hR.noOp ha3 (Int.le_refl _)
 refine lx_round_back rfl hno rfl ?_
 have hmk : isP ts (s.at' + 1 + l.length) 125 = true := by rw [at_mark ha3]; rfl
 unfold backF backG
 rw [if_neg (show ¬ (1 : Int) = 0 by decide), if_pos rfl]
 rw [exp_ok (c := 125) hmk]
 show Except.ok _ = _
 congr 1
 rw [nrT_comp, nrTs, nrTs]
 refine RdS.eq ?_ rfl rfl rfl rfl rfl rfl rfl rfl
 show s.at' + 1 + l.length + 1 = s.at' + (pL 123 :: (l ++ [pL 125])).length
 simp only [List.length_cons, List.length_append, List.length_nil]
 omega
end
end Go.Proofs.YtcallkljcjimiaaGreatDoor
namespace Go.Proofs.YtcallkljcjimiaaGreatDoor
open Go.RowKit Go.Maps
set_option maxRecDepth 100000
theorem RdAt.drew {u : World} {rb : Nat} {v : RdV} {ts : List Tok} {s : RdS} {B : Nat} (h : RdAt u rb v ts s B) : RdAt u.drew rb v ts s B := h.later (Below.refl _ _).drew
end Go.Proofs.YtcallkljcjimiaaGreatDoor
