import Derived.Test.YtcallkljcjimiaaGreatDoorJW44
import Derived.Test.YtcallkljcjimiaaGreatDoorJW41
namespace Go.Proofs.YtcallkljcjimiaaGreatDoor
def posF : List Int → Int → Option Nat
 | [], _ => none
 | x :: r, n => if x = n then some 0 else (posF r n).map (· + 1)
mutual
def nrT (seen : List Int) : Tm → Tm × List Int
 | .mk k n s l => if k = 1 then (match posF seen n with | some i => (varT (i : Int), seen) | none => (varT (seen.length : Int), seen ++ [n])) else ((.mk k n s (nrTs seen l).1), (nrTs seen l).2)
def nrTs (seen : List Int) : List Tm → List Tm × List Int
 | [] => ([], seen)
 | t :: r => ((nrT seen t).1 :: (nrTs (nrT seen t).2 r).1, (nrTs (nrT seen t).2 r).2)
end
theorem varsOf_snoc : ∀ (l : List Int) (k : Nat) (n : Int), varsOf k (l ++ [n]) = varsOf k l ++ [(95 :: Lib.itoa n, ((k + l.length : Nat) : Int))]
 | [], k, n => rfl
 | x :: l, k, n => by
  rw [List.cons_append, varsOf, varsOf_snoc l (k + 1) n, varsOf, List.length_cons, show k + 1 + l.length = k + (l.length + 1) by omega]
  rfl
theorem itoa_inj {a b : Int} (ha : 0 ≤ a ∧ a ≤ 9223372036854775807) (hb : 0 ≤ b ∧ b ≤ 9223372036854775807) (h : Lib.itoa a = Lib.itoa b) : a = b := by
 obtain ⟨u, rfl⟩ : ∃ u : Nat, a = (u : Int) := ⟨a.toNat, by omega⟩
 obtain ⟨v, rfl⟩ : ∃ v : Nat, b = (v : Int) := ⟨b.toNat, by omega⟩
 rw [Lib.itoa_nonneg, Lib.itoa_nonneg] at h
 have h1 := parse_dec u (by omega)
 have h2 := parse_dec v (by omega)
 rw [h, h2] at h1
 have h3 := (Prod.mk.injEq .. ▸ h1).1
 rw [tops_small (by omega), tops_small (by omega)] at h3
 omega
theorem find_vars (n : Int) (hn : 0 ≤ n ∧ n ≤ 9223372036854775807) : ∀ (l : List Int) (k : Nat), Fit l →
    (varsOf k l).find? (fun y => decide (y.1 = 95 :: Lib.itoa n)) = (posF l n).map fun i => (95 :: Lib.itoa n, ((k + i : Nat) : Int))
 | [], _, _ => rfl
 | x :: l, k, h => by
  rw [varsOf, List.find?_cons, posF]
  by_cases hx : x = n
  ·subst hx
   simp
  ·have h1 : ¬ (95 :: Lib.itoa x = 95 :: Lib.itoa n) := fun e => hx (itoa_inj (h x (by simp)) hn (List.cons.inj e).2)
   have ih := find_vars n hn l (k + 1) fun y hy => h y (List.mem_cons_of_mem _ hy)
   simp only [decide_eq_false h1]
   rw [ih, if_neg hx, Option.map_map]
   congr 1
   funext i
   show _ = (95 :: Lib.itoa n, ((k + (i + 1) : Nat) : Int))
   rw [show k + 1 + i = k + (i + 1) by omega]
theorem dec_ne_nil (n : Int) : Lib.itoa n ≠ [] := by
 unfold Lib.itoa
 split
 ·simp
 ·exact dec_ne _
theorem drop_peek {ts : List Tok} {i : Nat} {t : Tok} {r : List Tok} (h : ts.drop i = t :: r) : peekF ts i = t ∧ ts.drop (i + 1) = r := by
 refine ⟨?_, by rw [← List.drop_drop, h]; rfl⟩
 have h1 := congrArg List.head? h
 rw [List.head?_drop] at h1
 unfold peekF
 rw [List.getD_eq_getElem?_getD, h1]
 rfl
theorem at_head {ts : List Tok} {i : Nat} {a : Lxm} {r : List Lxm} (h : AtL ts i (a :: r)) :
    (peekF ts i).kind = a.kind ∧ (peekF ts i).n = a.n ∧ (peekF ts i).s = a.s ∧ (peekF ts i).opn = opnL r ∧ ts.drop (i + 1) = tkL false r ++ [endTok 1] := by
 obtain ⟨first, h⟩ := h
 rw [tkL, List.cons_append] at h
 obtain ⟨h1, h2⟩ := drop_peek h
 rw [h1]
 exact ⟨rfl, rfl, rfl, rfl, h2⟩
theorem at_next {ts : List Tok} {i : Nat} {a : Lxm} {r : List Lxm} (h : AtL ts i (a :: r)) : AtL ts (i + 1) r := ⟨false, (at_head h).2.2.2.2⟩
theorem at_tight {ts : List Tok} {i : Nat} {a b : Lxm} {r : List Lxm} (h : AtL ts i (a :: b :: r)) : (peekF ts (i + 1)).tight = !b.sp := by
 have h1 := (at_head h).2.2.2.2
 rw [tkL, List.cons_append] at h1
 rw [(drop_peek h1).1]
 rfl
theorem at_mark {ts : List Tok} {i : Nat} {a : Lxm} {r : List Lxm} (h : AtL ts i (a :: r)) (c : UInt8) : isP ts i c = (decide (a.kind = 6) && decide (a.s = [c])) := by
 obtain ⟨h1, -, h3, -⟩ := at_head h
 unfold isP
 rw [h1, h3]
theorem at_app {ts : List Tok} : ∀ (l r : List Lxm) (i : Nat), AtL ts i (l ++ r) → AtL ts (i + l.length) r
 | [], _, _, h => h
 | a :: l, r, i, h => by
  have h1 := at_app l r (i + 1) (at_next h)
  rwa [show i + 1 + l.length = i + (a :: l).length by rw [List.length_cons]; omega] at h1
theorem RestOk.less {o : OpsF} {b : Lxm} {rb rb' : Int} {a a' : Bool} (h : RestOk o b rb a) (hr : rb' ≤ rb) (ha : a' = true → a = true) : RestOk o b rb' a' :=
 ⟨h.opn, h.kind, h.clos, fun hk => ⟨fun h1 => by have := (h.fol hk).1 h1; omega, fun h1 => by have := (h.fol hk).2 h1; omega⟩, fun h1 => h.atm (ha h1)⟩
theorem RestOk.noBegin {o : OpsF} {b : Lxm} {rb : Int} {a : Bool} (h : RestOk o b rb a) (ha : a = true) {ts : List Tok} {i : Nat} {r : List Lxm} (h2 : AtL ts i (b :: r)) : beginsF o (peekF ts i) = false := by
 obtain ⟨h3, -, h4, -⟩ := at_head h2
 unfold beginsF
 rw [h3, h4]
 rcases h.atm ha with hk | hk
 ·rw [if_neg (by omega), if_pos hk, decide_eq_false (h.clos hk)]
 ·rw [if_neg (by omega), if_neg (by omega), if_neg (by omega)]
theorem RestOk.noOp {o : OpsF} {b : Lxm} {rb : Int} {a : Bool} (h : RestOk o b rb a) {ts : List Tok} {s : RdS} {r : List Lxm} (h2 : AtL ts s.at' (b :: r)) (hm : s.most ≤ rb) : operatorF o ts s = none := by
 obtain ⟨h3, -, h4, -⟩ := at_head h2
 unfold operatorF
 simp only
 rw [h3, h4, at_mark h2]
 by_cases hk : b.kind ≠ 1 ∧ b.kind ≠ 2 ∧ (decide (b.kind = 6) && decide (b.s = [44])) = false
 ·rw [if_pos hk]
 ·rw [if_neg hk]
  have hk2 : b.kind = 1 ∨ b.kind = 2 ∨ b.s = [44] := by
   by_cases e1 : b.kind = 1
   ·exact .inl e1
   ·by_cases e2 : b.kind = 2
    ·exact .inr (.inl e2)
    ·refine .inr (.inr (Classical.byContradiction fun e3 => hk ⟨e1, e2, ?_⟩))
     rw [decide_eq_false e3, Bool.and_false]
  obtain ⟨f1, f2⟩ := h.fol hk2
  rw [if_neg (fun hh => by have := f1 hh.1; omega), if_neg (fun hh => by have := f2 hh.1; omega)]
theorem rest_p (o : OpsF) (H : TabOk o) (c : UInt8) (hc : c = 41 ∨ c = 44 ∨ c = 93 ∨ c = 124 ∨ c = 125) (rb : Int) (hr : c = 44 → rb ≤ 999) (a : Bool) : RestOk o (pL c) rb a := by
 refine ⟨?_, .inr (.inr (.inl rfl)), fun _ => ?_, fun h => ?_, fun _ => .inl rfl⟩
 ·rcases hc with rfl | rfl | rfl | rfl | rfl <;> rfl
 ·rcases hc with rfl | rfl | rfl | rfl | rfl <;> (show ¬ _; decide)
 ·rcases h with h | h | h
  ·exact absurd h (by show ¬ (6 : Int) = 1; decide)
  ·exact absurd h (by show ¬ (6 : Int) = 2; decide)
  ·have hc44 : c = 44 := by
    have h : [c] = [44] := h
    exact (List.cons.inj h).1
   subst hc44
   obtain ⟨h1, h2, -⟩ := H.comma
   show (0 < (o.inf [44]).1 → rb < (o.inf [44]).1) ∧ (0 < (o.post [44]).1 → rb < (o.post [44]).1)
   rw [h1, h2]
   exact ⟨fun _ => by have := hr rfl; omega, fun h => absurd h (by decide)⟩
def Reads (o : OpsF) (ts : List Tok) (l : List Lxm) (t : Tm) (pr rb : Int) (atm : Bool) : Prop :=
 ∀ (s : RdS) (seen : List Int) (b : Lxm) (r : List Lxm), s.hv = false → SeenIs s seen → AtL ts s.at' (l ++ b :: r) → pr ≤ s.most → RestOk o b rb atm →
  endF o ts s = endF o ts (s.put l.length (nrT seen t) pr)
section
variable {o : OpsF} {ts : List Tok}
theorem at_unsp {i : Nat} {l r : List Lxm} (hne : l ≠ []) (h : AtL ts i (spL l ++ r)) : AtL ts i (l ++ r) := by
 obtain ⟨first, h⟩ := h
 cases l with
 | nil => exact absurd rfl hne
 | cons a y =>
  refine ⟨true, ?_⟩
  rw [h]
  show tkL first ({ a with sp := true } :: (y ++ r)) ++ [endTok 1] = tkL true (a :: (y ++ r)) ++ [endTok 1]
  rw [tkL, tkL]
  simp
theorem round_prim' {s : RdS} (hv : s.hv = false) {s1 : RdS} (h : primaryF o ts s = .ok s1) : endF o ts s = endF o ts s1 := on_end (by unfold roundF; rw [if_pos hv, h]; rfl)
theorem lx_round_op {s : RdS} (hv : s.hv = true) {s1 : RdS} (h : operatorF o ts s = some s1) : endF o ts s = endF o ts s1 := on_end (by unfold roundF; rw [if_neg (by rw [hv]; decide), h])
theorem lx_round_back {s : RdS} (hv : s.hv = true) (h : operatorF o ts s = none) {f : WaitF} {r : List WaitF} (hw : s.wait = f :: r) {s1 : RdS} (hb : backF ts s f r = .ok s1) : endF o ts s = endF o ts s1 := on_end (by unfold roundF; rw [if_neg (by rw [hv]; decide), h, hw]; simp only; rw [hb]; rfl)
theorem put_same {s : RdS} {seen : List Int} (h : SeenIs s seen) (k : Nat) (t : Tm) (p : Int) : s.put k (t, seen) p = (s.go k).done t p :=
 RdS.eq rfl rfl rfl rfl rfl rfl h.vars.symm h.names.symm h.cnt.symm
end
theorem wf_var {t : Tm} (h : WfT t) (hk : t.k = 1) : t = varT t.n := by
 obtain ⟨k, n, s, l⟩ := t
 have h1 := h.may
 rw [Tm.may, Bool.and_eq_true] at h1
 have h1 := h1.1
 have hk : k = 1 := hk
 subst hk
 unfold mayP at h1
 rw [if_pos rfl] at h1
 obtain ⟨_, h2, h3⟩ := of_decide_eq_true h1
 rw [h2, List.eq_nil_of_length_eq_zero h3]
 rfl
theorem wf_int {t : Tm} (h : WfT t) (hk : t.k = 2) : t = intT t.n := by
 obtain ⟨k, n, s, l⟩ := t
 have h1 := h.may
 rw [Tm.may, Bool.and_eq_true] at h1
 have h1 := h1.1
 have hk : k = 2 := hk
 subst hk
 unfold mayP at h1
 rw [if_neg (by decide), if_pos rfl] at h1
 obtain ⟨h2, h3⟩ := of_decide_eq_true h1
 rw [h2, List.eq_nil_of_length_eq_zero h3]
 rfl
theorem wf_atom {t : Tm} (h : WfT t) (hk : t.k = 3) : t = atomT t.s := by
 obtain ⟨k, n, s, l⟩ := t
 have h1 := h.may
 rw [Tm.may, Bool.and_eq_true] at h1
 have h1 := h1.1
 have hk : k = 3 := hk
 subst hk
 unfold mayP at h1
 rw [if_neg (by decide), if_neg (by decide), if_pos rfl] at h1
 obtain ⟨h2, _, h3⟩ := of_decide_eq_true h1
 rw [h2, List.eq_nil_of_length_eq_zero h3]
 rfl
theorem wf_comp {t : Tm} (h : WfT t) (hk : t.k = 4) : t = compT t.s t.args := by
 obtain ⟨k, n, s, l⟩ := t
 have h1 := h.may
 rw [Tm.may, Bool.and_eq_true] at h1
 have h1 := h1.1
 have hk : k = 4 := hk
 subst hk
 unfold mayP at h1
 rw [if_neg (by decide), if_neg (by decide), if_neg (by decide), if_pos rfl] at h1
 obtain ⟨h2, _⟩ := of_decide_eq_true h1
 rw [h2]
 rfl
theorem nrT_leaf (seen : List Int) {k n : Int} {s : List UInt8} (hk : k ≠ 1) : nrT seen (.mk k n s []) = (.mk k n s [], seen) := by
 rw [nrT, if_neg hk, nrTs]
theorem nrT_comp (seen : List Int) (s : List UInt8) (l : List Tm) : nrT seen (compT s l) = (compT s (nrTs seen l).1, (nrTs seen l).2) := by
 unfold compT
 rw [nrT, if_neg (by decide)]
mutual
theorem fit_nrT : ∀ (t : Tm) (seen : List Int), WfT t → Fit seen → Fit (nrT seen t).2
 | .mk k n s l, seen, h, hs => by
  rw [nrT]
  by_cases hk : k = 1
  ·rw [if_pos hk]
   have hp := var_pos h hk
   have hf := h.n
   cases posF seen n with
   | some i => exact hs
   | none =>
    intro m hm
    rcases List.mem_append.1 hm with h1 | h1
    ·exact hs m h1
    ·rw [List.mem_singleton.1 h1]
     exact ⟨hp, hf.2⟩
  ·rw [if_neg hk]
   exact fit_nrTs l seen (fun x hx => h.mem hx) hs
theorem fit_nrTs : ∀ (l : List Tm) (seen : List Int), (∀ x ∈ l, WfT x) → Fit seen → Fit (nrTs seen l).2
 | [], seen, _, hs => by rw [nrTs]; exact hs
 | t :: r, seen, h, hs => by
  rw [nrTs]
  exact fit_nrTs r _ (fun x hx => h x (List.mem_cons_of_mem _ hx)) (fit_nrT t seen (h t (List.mem_cons_self ..)) hs)
end
section
variable {o : OpsF} {ts : List Tok}
theorem reads_var {t : Tm} (hw : WfT t) (hk : t.k = 1) (rb : Int) (a : Bool) : Reads o ts [vrL t.n] t 0 rb a := by
 intro s seen b r hv hs ha hm hr
 obtain ⟨h1, -, h3, -, -⟩ := at_head ha
 refine round_prim' hv ?_
 unfold primaryF
 simp only
 rw [h1, if_neg (by show ¬ (4 : Int) = 3; decide), if_pos (by rfl), h3]
 congr 1
 have hp : 0 ≤ t.n ∧ t.n ≤ 9223372036854775807 := ⟨var_pos hw hk, hw.n.2⟩
 have hf := find_vars t.n hp seen 0 hs.fit
 have ht := wf_var hw hk
 generalize t.n = n at *
 subst ht
 show varF (s.go 1) (95 :: Lib.itoa n) = _
 have hne : ¬ (95 :: Lib.itoa n = [95]) := fun e => dec_ne_nil n (List.cons.inj e).2
 unfold varF
 rw [show (s.go 1).vars = varsOf 0 seen from hs.vars, hf]
 unfold varT
 rw [nrT, if_pos rfl]
 cases posF seen n with
 | some i =>
  simp only [Option.map_some, Nat.zero_add]
  exact RdS.eq rfl rfl rfl rfl rfl rfl hs.vars hs.names hs.cnt
 | none =>
  simp only [Option.map_none]
  rw [if_neg hne]
  have hsn := varsOf_snoc seen 0 n
  rw [Nat.zero_add] at hsn
  refine RdS.eq rfl rfl rfl rfl ?_ rfl ?_ ?_ ?_
  ·show varT (s.go 1).cnt = varT _
   rw [show (s.go 1).cnt = (seen.length : Int) from hs.cnt]
  ·show varsOf 0 seen ++ [(95 :: Lib.itoa n, s.cnt)] = varsOf 0 (seen ++ [n])
   rw [hsn, hs.cnt]
  ·show s.names ++ [(95 :: Lib.itoa n, s.cnt)] = varsOf 0 (seen ++ [n])
   rw [hsn, hs.cnt, hs.names]
  ·show s.cnt + 1 = ((seen ++ [n]).length : Int)
   rw [hs.cnt, List.length_append]
   rfl
theorem reads_int {t : Tm} (hw : WfT t) (hk : t.k = 2) (rb : Int) (a : Bool) : Reads o ts (inL t.n) t 0 rb a := by
 intro s seen b r hv hs ha hm hr
 have hn := hw.n
 have ht := wf_int hw hk
 generalize t.n = n at *
 subst ht
 have he : nrT seen (intT n) = (intT n, seen) := nrT_leaf seen (by decide)
 rw [he, put_same hs]
 refine round_prim' hv ?_
 unfold inL at ha ⊢
 by_cases h0 : n < 0
 ·rw [if_pos h0] at ha ⊢
  obtain ⟨h1, -, h3, -, -⟩ := at_head ha
  have ha2 := at_next ha
  obtain ⟨g1, g2, -, -, -⟩ := at_head ha2
  have htg := at_tight ha
  unfold primaryF
  simp only
  rw [h1, if_neg (by show ¬ (1 : Int) = 3; decide), if_neg (by show ¬ (1 : Int) = 4; decide), if_neg (by show ¬ (1 : Int) = 5; decide), if_neg (by show ¬ (1 : Int) = 6; decide), if_pos (.inl rfl)]
  unfold atomF
  simp only
  rw [h1, h3, g1, htg, if_pos ⟨rfl, rfl, rfl, rfl⟩, g2]
  show Except.ok ((s.go 2).done (intT (negI (tops n.natAbs))) 0) = _
  rw [neg_tops (by omega), show -((n.natAbs : Nat) : Int) = n by omega]
  rfl
 ·rw [if_neg h0] at ha ⊢
  obtain ⟨h1, h2, -, -, -⟩ := at_head ha
  have hN : tops n.toNat = n := by rw [tops_small (by omega)]; omega
  unfold primaryF
  simp only
  rw [h1, if_pos (by rfl), h2]
  rw [show (numL n.toNat).n = n from hN, if_neg h0]
  rfl
theorem nm_one {s : List UInt8} (h : ¬ (s = [91, 93] ∨ s = [123, 125])) : ∃ a : Lxm, nmL s = [a] ∧ (a.kind = 1 ∨ a.kind = 2) ∧ a.s = s ∧ a.sp = false := by
 unfold nmL
 rw [if_neg h]
 refine ⟨_, rfl, ?_, rfl, rfl⟩
 show (if plainB s = true then (1 : Int) else 2) = 1 ∨ _
 cases plainB s with
 | true => exact .inl rfl
 | false => exact .inr rfl
theorem prim_atom {s : RdS} {a : Lxm} (h1 : (peekF ts s.at').kind = a.kind) (hk : a.kind = 1 ∨ a.kind = 2) : primaryF o ts s = atomF o ts s (peekF ts s.at') := by
 unfold primaryF
 simp only
 rw [h1, if_neg (by omega), if_neg (by omega), if_neg (by omega), if_neg (by omega), if_pos hk]
theorem prim_p {s : RdS} (h1 : (peekF ts s.at').kind = 6) : primaryF o ts s = punctF ts s (peekF ts s.at').s := by
 unfold primaryF
 simp only
 rw [h1, if_neg (by decide), if_neg (by decide), if_neg (by decide), if_pos rfl]
theorem prim_pair {s : RdS} {n : List UInt8} (hn : n = [91, 93] ∨ n = [123, 125]) {r : List Lxm} (ha : AtL ts s.at' (nmL n ++ r)) : primaryF o ts s = if opnL r then argsF ts (s.go 2) n else .ok ((s.go 2).done (atomT n) 0) := by
 rcases hn with rfl | rfl
 ·have hn : nmL [91, 93] = [pL 91, pL 93] := by unfold nmL; rw [if_pos (.inl rfl)]; rfl
  rw [hn] at ha
  obtain ⟨h1, -, h3, -, -⟩ := at_head ha
  have ha2 := at_next ha
  obtain ⟨-, -, -, g4, -⟩ := at_head ha2
  rw [prim_p h1, h3]
  unfold punctF
  rw [if_neg (by decide), if_pos (by rfl), at_mark ha2]
  rw [if_pos (by rfl)]
  unfold pairF
  simp only
  rw [h3, g4]
  rfl
 ·have hn : nmL [123, 125] = [pL 123, pL 125] := by unfold nmL; rw [if_pos (.inr rfl)]; rfl
  rw [hn] at ha
  obtain ⟨h1, -, h3, -, -⟩ := at_head ha
  have ha2 := at_next ha
  obtain ⟨-, -, -, g4, -⟩ := at_head ha2
  rw [prim_p h1, h3]
  unfold punctF
  rw [if_neg (by decide), if_neg (by decide), if_pos (by rfl), at_mark ha2]
  rw [if_pos (by rfl)]
  unfold pairF
  simp only
  rw [h3, g4]
  rfl
theorem reads_atom {t : Tm} (hw : WfT t) (hk : t.k = 3) (rb : Int) (a : Bool) (hb : 0 < (o.pre t.s).1 → a = true) : Reads o ts (nmL t.s) t 0 rb a := by
 intro s seen b r hv hs ha hm hr
 have ht := wf_atom hw hk
 generalize t.s = n at *
 subst ht
 have he : nrT seen (atomT n) = (atomT n, seen) := nrT_leaf seen (by decide)
 rw [he, put_same hs]
 refine round_prim' hv ?_
 by_cases hn : n = [91, 93] ∨ n = [123, 125]
 ·rw [prim_pair hn ha, hr.opnL]
  rcases hn with rfl | rfl <;> rfl
 ·obtain ⟨x, hx, hxk, hxs, -⟩ := nm_one hn
  rw [hx] at ha ⊢
  obtain ⟨h1, -, h3, h4, -⟩ := at_head ha
  have ha2 := at_next ha
  obtain ⟨g1, -, -, -, -⟩ := at_head ha2
  rw [prim_atom h1 hxk]
  unfold atomF
  simp only
  rw [h1, h3, h4, hxs, g1]
  have hop : opnL ([] ++ b :: r) = false := hr.opnL r
  rw [if_neg (fun h => by have := hr.kind; omega), if_neg (by rw [show opnL (List.append [] (b :: r)) = false from hop]; decide)]
  have hno : ¬ (0 < (o.pre n).1 ∧ (o.pre n).1 ≤ s.most ∧ beginsF o (peekF ts (s.at' + 1)) = true) := fun h => by
   have := hr.noBegin (hb h.1) ha2
   rw [this] at h
   exact absurd h.2.2 (by decide)
  rw [if_neg hno]
  rfl
theorem exp_ok {q : RdS} {c : UInt8} (h : isP ts q.at' c = true) : q.expect ts c = .ok (q.go 1) := by
 unfold RdS.expect
 rw [if_pos h]
theorem reads_paren (H : TabOk o) {l : List Lxm} {t : Tm} {pr rb : Int} {a : Bool} (h : Reads o ts l t pr rb a) (hp : pr ≤ 1200) (hrb : rb ≤ 1200) (rb' : Int) (a' : Bool) : Reads o ts (pL 40 :: (l ++ [pL 41])) t 0 rb' a' := by
 intro s seen b r hv hs ha hm hr
 rw [List.cons_append, List.append_assoc] at ha
 obtain ⟨h1, -, h3, -, -⟩ := at_head ha
 have ha2 := at_next ha
 have e1 : primaryF o ts s = .ok ((s.go 1).await ⟨0, 0, [], 0, []⟩ 1200) := by
  rw [prim_p h1, h3]
  unfold punctF
  rw [if_pos (by rfl)]
 rw [round_prim' hv e1]
 have hs1 := hs.await 1 ⟨0, 0, [], 0, []⟩ 1200
 have hR : RestOk o (pL 41) 1200 true := rest_p o H 41 (.inl rfl) 1200 (fun e => absurd e (by decide)) true
 rw [h ((s.go 1).await ⟨0, 0, [], 0, []⟩ 1200) seen (pL 41) (b :: r) rfl hs1 ha2 hp (hR.less hrb (fun _ => rfl))]
 have ha3 := at_app l (pL 41 :: b :: r) (s.at' + 1) ha2
 have hno : operatorF o ts (((s.go 1).await ⟨0, 0, [], 0, []⟩ 1200).put l.length (nrT seen t) pr) = none := hR.noOp ha3 (Int.le_refl _)
 refine lx_round_back rfl hno rfl ?_
 have hmk : isP ts (s.at' + 1 + l.length) 41 = true := by rw [at_mark ha3]; rfl
 unfold backF backG
 rw [if_pos rfl]
 rw [exp_ok (c := 41) hmk]
 show Except.ok _ = _
 congr 1
 refine RdS.eq ?_ rfl rfl rfl rfl rfl rfl rfl rfl
 show s.at' + 1 + l.length + 1 = s.at' + (pL 40 :: (l ++ [pL 41])).length
 simp only [List.length_cons, List.length_append, List.length_nil]
 omega
theorem reads_brace (H : TabOk o) {l : List Lxm} {t : Tm} {pr rb : Int} {a : Bool} (h : Reads o ts l t pr rb a) (hp : pr ≤ 1200) (hrb : rb ≤ 1200) (hh : ∃ x y, l = x :: y ∧ (x.kind = 6 → x.s ≠ [125])) (rb' : Int) (a' : Bool) : Reads o ts (pL 123 :: (l ++ [pL 125])) (compT [123, 125] [t]) 0 rb' a' := by
 intro s seen b r hv hs ha hm hr
 rw [List.cons_append, List.append_assoc] at ha
 obtain ⟨h1, -, h3, -, -⟩ := at_head ha
 have ha2 := at_next ha
 have e1 : primaryF o ts s = .ok ((s.go 1).await ⟨1, 0, [], 0, []⟩ 1200) := by
  rw [prim_p h1, h3]
  unfold punctF
  rw [if_neg (by decide), if_neg (by decide), if_pos (by rfl)]
  obtain ⟨x, y, rfl, hx⟩ := hh
  rw [if_neg]
  rw [at_mark (a := x) (r := y ++ ([pL 125] ++ b :: r)) ha2, Bool.and_eq_true, decide_eq_true_eq, decide_eq_true_eq]
  exact fun e => hx e.1 e.2
 rw [round_prim' hv e1]
 have hs1 := hs.await 1 ⟨1, 0, [], 0, []⟩ 1200
 have hR : RestOk o (pL 125) 1200 true := rest_p o H 125 (.inr (.inr (.inr (.inr rfl)))) 1200 (fun e => absurd e (by decide)) true
 rw [h ((s.go 1).await ⟨1, 0, [], 0, []⟩ 1200) seen (pL 125) (b :: r) rfl hs1 ha2 hp (hR.less hrb (fun _ => rfl))]
 have ha3 := at_app l (pL 125 :: b :: r) (s.at' + 1) ha2
 have hno : operatorF o ts (((s.go 1).await ⟨1, 0, [], 0, []⟩ 1200).put l.length (nrT seen t) pr) = none := hR.noOp ha3 (Int.le_refl _)
 refine lx_round_back rfl hno rfl ?_
 have hmk : isP ts (s.at' + 1 + l.length) 125 = true := by rw [at_mark ha3]; rfl
 unfold backF backG
 rw [if_neg (show ¬ (1 : Int) = 0 by decide), if_pos rfl]
 rw [exp_ok (c := 125) hmk]
 show Except.ok _ = _
 congr 1
 rw [nrT_comp, nrTs, nrTs]
 refine RdS.eq ?_ rfl rfl rfl rfl rfl rfl rfl rfl
 show s.at' + 1 + l.length + 1 = s.at' + (pL 123 :: (l ++ [pL 125])).length
 simp only [List.length_cons, List.length_append, List.length_nil]
 omega
end
end Go.Proofs.YtcallkljcjimiaaGreatDoor
namespace Go.Proofs.YtcallkljcjimiaaGreatDoor
open Go.RowKit
theorem posF_idx : ∀ (l : List Int) (n : Int), posF l n = if n ∈ l then some (l.idxOf n) else none
 | [], n => rfl
 | x :: r, n => by
  rw [posF, posF_idx r n]
  by_cases h : x = n
  ·rw [if_pos h, if_pos (by simp [h]), h, List.idxOf_cons_self]
  ·rw [if_neg h]
   by_cases h2 : n ∈ r
   ·rw [if_pos h2, if_pos (List.mem_cons_of_mem _ h2), Option.map_some, List.idxOf_cons, beq_eq_false_iff_ne.2 h, cond_false]
   ·rw [if_neg h2, if_neg (by simp only [List.mem_cons, not_or]; exact ⟨fun e => h e.symm, h2⟩)]
    rfl
theorem idxOf_len {l : List Int} {n : Int} (h : n ∉ l) : l.idxOf n = l.length := by
 rw [List.idxOf_eq_length h]
mutual
theorem renT_nrT (seen : List Int) : ∀ t : Tm, t.may = true → renT numI seen t = nrT seen t
 | .mk k n s l, h => by
  rw [renT, nrT]
  by_cases hk : k = 1
  ·rw [if_pos hk, if_pos hk]
   have hv := may_var h hk
   have h1 : s = [] := hv.1
   have h2 : l = [] := hv.2
   subst h1 h2
   rw [posF_idx]
   by_cases hn : n ∈ seen
   ·rw [if_pos hn]
    simp only [numI, addN, if_pos hn, varT]
   ·rw [if_neg hn]
    simp only [numI, addN, if_neg hn, varT, idxOf_len hn]
  ·rw [if_neg hk, if_neg hk, renTs_nrTs seen l (by rw [Tm.may, Bool.and_eq_true] at h; exact h.2)]
theorem renTs_nrTs (seen : List Int) : ∀ l : List Tm, Tm.mays l = true → renTs numI seen l = nrTs seen l
 | [], _ => by rw [renTs, nrTs]
 | t :: r, h => by
  rw [renTs, nrTs, renT_nrT seen t (by rw [Tm.mays, Bool.and_eq_true] at h; exact h.1), renTs_nrTs _ r (by rw [Tm.mays, Bool.and_eq_true] at h; exact h.2)]
end
section
variable {o : OpsF} {ts : List Tok}
theorem rest_c (H : TabOk o) (c : UInt8) (hc : c = 41 ∨ c = 93 ∨ c = 124) (rb : Int) (a : Bool) : RestOk o (pL c) rb a :=
 rest_p o H c (by rcases hc with h | h | h <;> simp [h]) rb (fun e => by rcases hc with h | h | h <;> (rw [h] at e; exact absurd e (by decide))) a
theorem back_more {s : RdS} {F : WaitF} {W : List WaitF} (hu : F.use = 2 ∨ F.use = 3) (h : isP ts s.at' 44 = true) :
    backF ts s F W = .ok (({ s with wait := W, most := F.most }.go 1).again { F with l := F.l ++ [s.t] } 999) := by
 unfold backF backG
 rcases hu with hu | hu
 ·rw [if_neg (by rw [hu]; decide), if_neg (by rw [hu]; decide), if_neg (by rw [hu]; decide), if_neg (by rw [hu]; decide), if_pos hu]
  simp only
  rw [if_pos h]
 ·rw [if_neg (by rw [hu]; decide), if_neg (by rw [hu]; decide), if_neg (by rw [hu]; decide), if_neg (by rw [hu]; decide), if_neg (by rw [hu]; decide), if_pos hu]
  simp only
  rw [if_pos h]
theorem reads_items (H : TabOk o) (g : Tm → Int → List Lxm) : ∀ (l : List Tm), l ≠ [] → (∀ t ∈ l, WfT t ∧ ∃ pr rb a, Reads o ts (g t 999) t pr rb a ∧ pr ≤ 999 ∧ rb ≤ 999) →
    ∀ (s : RdS) (F : WaitF) (W : List WaitF) (seen : List Int) (c : UInt8) (r : List Lxm), s.hv = false → s.most = 999 → s.wait = F :: W → (F.use = 2 ∨ F.use = 3) → SeenIs s seen → AtL ts s.at' (commaL g l ++ pL c :: r) → (c = 41 ∨ c = 93 ∨ c = 124) →
    ∃ (ini : List Tm) (last : Tm) (p : Int), (nrTs seen l).1 = ini ++ [last] ∧ endF o ts s = endF o ts ⟨s.at' + (commaL g l).length, { F with l := F.l ++ ini } :: W, 999, true, last, p, varsOf 0 (nrTs seen l).2, varsOf 0 (nrTs seen l).2, ((nrTs seen l).2.length : Int)⟩
 | [], h, _ => absurd rfl h
 | [t], _, h => fun s F W seen c r hv hm hw hu hs ha hc => by
  obtain ⟨hwt, pr, rb, a, hr, hp, hb⟩ := h t (by simp)
  refine ⟨[], (nrT seen t).1, pr, by rw [nrTs, nrTs]; rfl, ?_⟩
  rw [hr s seen (pL c) r hv hs ha (by omega) (rest_c H c hc rb a)]
  congr 1
  refine RdS.eq rfl ?_ hm rfl rfl rfl ?_ ?_ ?_
  ·show s.wait = _
   rw [hw, List.append_nil]
  ·rw [nrTs, nrTs]; rfl
  ·rw [nrTs, nrTs]; rfl
  ·rw [nrTs, nrTs]; rfl
 | t :: t2 :: l, _, h => fun s F W seen c r hv hm hw hu hs ha hc => by
  obtain ⟨hwt, pr, rb, a, hr, hp, hb⟩ := h t (by simp)
  have hcl : commaL g (t :: t2 :: l) = g t 999 ++ pL 44 :: commaL g (t2 :: l) := rfl
  rw [hcl] at ha ⊢
  rw [List.append_assoc, List.cons_append] at ha
  have hR : RestOk o (pL 44) 999 true := rest_p o H 44 (.inr (.inl rfl)) 999 (fun _ => Int.le_refl _) true
  have e1 := hr s seen (pL 44) _ hv hs ha (by omega) (hR.less hb fun _ => rfl)
  have ha2 := at_app _ _ _ ha
  have hno : operatorF o ts (s.put (g t 999).length (nrT seen t) pr) = none := hR.noOp ha2 (by show s.most ≤ 999; omega)
  have hmk : isP ts (s.put (g t 999).length (nrT seen t) pr).at' 44 = true := by
   show isP ts (s.at' + (g t 999).length) 44 = true
   rw [at_mark ha2]
   rfl
  have e2 := lx_round_back (s := s.put (g t 999).length (nrT seen t) pr) rfl hno hw (back_more hu hmk)
  have hs2 : SeenIs (({ s.put (g t 999).length (nrT seen t) pr with wait := W, most := F.most }.go 1).again { F with l := F.l ++ [(nrT seen t).1] } 999) (nrT seen t).2 := ⟨rfl, rfl, rfl, fit_nrT t seen hwt hs.fit⟩
  obtain ⟨ini, last, p, h1, h2⟩ := reads_items H g (t2 :: l) (by simp) (fun x hx => h x (List.mem_cons_of_mem _ hx)) _ { F with l := F.l ++ [(nrT seen t).1] } W (nrT seen t).2 c r rfl rfl rfl hu hs2 (at_next ha2) hc
  refine ⟨(nrT seen t).1 :: ini, last, p, by rw [nrTs, h1]; rfl, ?_⟩
  rw [e1, e2]
  refine h2.trans ?_
  congr 1
  refine RdS.eq ?_ ?_ rfl rfl rfl rfl ?_ ?_ ?_
  ·show s.at' + (g t 999).length + 1 + (commaL g (t2 :: l)).length = s.at' + (g t 999 ++ pL 44 :: commaL g (t2 :: l)).length
   simp only [List.length_append, List.length_cons]
   omega
  ·show ({ F with l := F.l ++ [(nrT seen t).1] ++ ini } : WaitF) :: W = { F with l := F.l ++ (nrT seen t).1 :: ini } :: W
   rw [List.append_assoc]
   rfl
  ·conv => rhs; rw [nrTs]
  ·conv => rhs; rw [nrTs]
  ·conv => rhs; rw [nrTs]
theorem args_go {s : RdS} {n : List UInt8} (h : isP ts s.at' 40 = true) : argsF ts s n = .ok ((s.go 1).await ⟨2, 0, n, 0, []⟩ 999) := by
 unfold argsF
 rw [exp_ok h]
theorem reads_func (H : TabOk o) (g : Tm → Int → List Lxm) (nm : List UInt8) (l : List Tm) (hl : l ≠ []) (h : ∀ t ∈ l, WfT t ∧ ∃ pr rb a, Reads o ts (g t 999) t pr rb a ∧ pr ≤ 999 ∧ rb ≤ 999) (rb' : Int) (a' : Bool) :
    Reads o ts (nmL nm ++ pL 40 :: (commaL g l ++ [pL 41])) (compT nm l) 0 rb' a' := by
 intro s seen b r hv hs ha hm hr
 have ha' : AtL ts s.at' (nmL nm ++ (pL 40 :: (commaL g l ++ pL 41 :: b :: r))) := by simpa using ha
 have ha2 := at_app _ _ _ ha'
 have hmk : isP ts (s.at' + (nmL nm).length) 40 = true := by rw [at_mark ha2]; rfl
 have e1 : primaryF o ts s = .ok (((s.go (nmL nm).length).go 1).await ⟨2, 0, nm, 0, []⟩ 999) := by
  by_cases hn : nm = [91, 93] ∨ nm = [123, 125]
  ·rw [prim_pair hn ha', if_pos (by rfl)]
   have hlen : (nmL nm).length = 2 := by unfold nmL; rw [if_pos hn]; rfl
   rw [hlen] at hmk ⊢
   exact args_go (s := s.go 2) hmk
  ·obtain ⟨x, hx, hxk, hxs, -⟩ := nm_one hn
   rw [hx] at ha' hmk ⊢
   obtain ⟨h1, -, h3, h4, -⟩ := at_head ha'
   have ha3 := at_next ha'
   obtain ⟨g1, -, -, -, -⟩ := at_head ha3
   rw [prim_atom h1 hxk]
   unfold atomF
   simp only
   rw [h1, h3, h4, hxs, g1, if_neg (fun h => absurd h.2.2.1 (by show ¬ (6 : Int) = 3; decide)), if_pos (by rfl)]
   exact args_go (s := s.go 1) hmk
 rw [round_prim' hv e1]
 have hs1 : SeenIs (((s.go (nmL nm).length).go 1).await ⟨2, 0, nm, 0, []⟩ 999) seen := ⟨hs.vars, hs.names, hs.cnt, hs.fit⟩
 have ha4 := at_next ha2
 obtain ⟨ini, last, p, h1, h2⟩ := reads_items H g l hl h (((s.go (nmL nm).length).go 1).await ⟨2, 0, nm, 0, []⟩ 999) ⟨2, s.most, nm, 0, []⟩ s.wait seen 41 (b :: r) rfl rfl rfl (.inl rfl) hs1 ha4 (.inl rfl)
 rw [h2]
 have ha5 := at_app _ _ _ ha4
 have hR : RestOk o (pL 41) 1200 true := rest_c H 41 (.inl rfl) 1200 true
 have hno := hR.noOp (s := ⟨s.at' + (nmL nm).length + 1 + (commaL g l).length, ⟨2, s.most, nm, 0, [] ++ ini⟩ :: s.wait, 999, true, last, p, varsOf 0 (nrTs seen l).2, varsOf 0 (nrTs seen l).2, ((nrTs seen l).2.length : Int)⟩) ha5 (by show (999 : Int) ≤ 1200; decide)
 refine lx_round_back rfl hno rfl ?_
 have hmk5 : isP ts (s.at' + (nmL nm).length + 1 + (commaL g l).length) 41 = true := by rw [at_mark ha5]; rfl
 have hmk6 : isP ts (s.at' + (nmL nm).length + 1 + (commaL g l).length) 44 = false := by rw [at_mark ha5]; rfl
 unfold backF backG
 rw [if_neg (show ¬ (2 : Int) = 0 by decide), if_neg (show ¬ (2 : Int) = 1 by decide), if_neg (show ¬ (2 : Int) = 5 by decide), if_neg (show ¬ (2 : Int) = 6 by decide), if_pos rfl]
 simp only
 rw [hmk6, if_neg (by decide), exp_ok (c := 41) hmk5]
 show Except.ok _ = _
 congr 1
 rw [nrT_comp]
 refine RdS.eq ?_ rfl rfl rfl ?_ rfl rfl rfl rfl
 ·show s.at' + (nmL nm).length + 1 + (commaL g l).length + 1 = s.at' + (nmL nm ++ pL 40 :: (commaL g l ++ [pL 41])).length
  simp only [List.length_append, List.length_cons, List.length_nil]
  omega
 ·show compT nm ([] ++ ini ++ [last]) = compT nm (nrTs seen l).1
  rw [h1]
  rfl
theorem nrTs_app (seen : List Int) : ∀ (l : List Tm) (tl : Tm), nrT seen (listT l tl) = (listT (nrTs seen l).1 (nrT (nrTs seen l).2 tl).1, (nrT (nrTs seen l).2 tl).2)
 | [], tl => by rw [nrTs]; rfl
 | t :: l, tl => by
  have ih := nrTs_app (nrT seen t).2 l tl
  show nrT seen (compT [46] [t, listT l tl]) = _
  rw [nrT_comp, nrTs, nrTs, nrTs, ih, nrTs]
  rfl
theorem reads_list (H : TabOk o) (g : Tm → Int → List Lxm) (l : List Tm) (tl : Tm) (hl : l ≠ []) (h : ∀ t ∈ l, WfT t ∧ ∃ pr rb a, Reads o ts (g t 999) t pr rb a ∧ pr ≤ 999 ∧ rb ≤ 999) (hh : ∃ x y, commaL g l = x :: y ∧ (x.kind = 6 → x.s ≠ [93]))
    (lt : List Lxm) (ht : (lt = [] ∧ tl = nilT) ∨ (∃ y, lt = pL 124 :: y ∧ ∃ pr rb a, Reads o ts y tl pr rb a ∧ pr ≤ 999 ∧ rb ≤ 999)) (rb' : Int) (a' : Bool) :
    Reads o ts (pL 91 :: (commaL g l ++ (lt ++ [pL 93]))) (listT l tl) 0 rb' a' := by
 intro s seen b r hv hs ha hm hr
 have ha' : AtL ts s.at' (pL 91 :: (commaL g l ++ (lt ++ pL 93 :: b :: r))) := by simpa using ha
 obtain ⟨h1, -, h3, -, -⟩ := at_head ha'
 have ha2 := at_next ha'
 have e1 : primaryF o ts s = .ok ((s.go 1).await ⟨3, 0, [], 0, []⟩ 999) := by
  rw [prim_p h1, h3]
  unfold punctF
  rw [if_neg (by decide), if_pos (by rfl)]
  obtain ⟨x, y, hxy, hx⟩ := hh
  rw [if_neg]
  rw [hxy] at ha2
  rw [at_mark (a := x) (r := y ++ (lt ++ pL 93 :: b :: r)) ha2, Bool.and_eq_true, decide_eq_true_eq, decide_eq_true_eq]
  exact fun e => hx e.1 e.2
 rw [round_prim' hv e1, nrTs_app]
 have hs1 : SeenIs ((s.go 1).await ⟨3, 0, [], 0, []⟩ 999) seen := hs.await 1 _ _
 rcases ht with ⟨rfl, rfl⟩ | ⟨y, rfl, pr, rb, a, hy, hyp, hyb⟩
 ·have hnil : ∀ sn, nrT sn nilT = (nilT, sn) := fun sn => nrT_leaf sn (by decide)
  rw [hnil]
  obtain ⟨ini, last, p, i1, i2⟩ := reads_items H g l hl h ((s.go 1).await ⟨3, 0, [], 0, []⟩ 999) ⟨3, s.most, [], 0, []⟩ s.wait seen 93 (b :: r) rfl rfl rfl (.inr rfl) hs1 ha2 (.inr (.inl rfl))
  rw [i2]
  have ha5 := at_app _ _ _ ha2
  have hR : RestOk o (pL 93) 1200 true := rest_c H 93 (.inr (.inl rfl)) 1200 true
  have hno := hR.noOp (s := ⟨s.at' + 1 + (commaL g l).length, ⟨3, s.most, [], 0, [] ++ ini⟩ :: s.wait, 999, true, last, p, varsOf 0 (nrTs seen l).2, varsOf 0 (nrTs seen l).2, ((nrTs seen l).2.length : Int)⟩) ha5 (by show (999 : Int) ≤ 1200; decide)
  refine lx_round_back rfl hno rfl ?_
  have hmk5 : isP ts (s.at' + 1 + (commaL g l).length) 93 = true := by rw [at_mark ha5]; rfl
  have hmk6 : isP ts (s.at' + 1 + (commaL g l).length) 44 = false := by rw [at_mark ha5]; rfl
  have hmk7 : isP ts (s.at' + 1 + (commaL g l).length) 124 = false := by rw [at_mark ha5]; rfl
  unfold backF backG
  rw [if_neg (show ¬ (3 : Int) = 0 by decide), if_neg (show ¬ (3 : Int) = 1 by decide), if_neg (show ¬ (3 : Int) = 5 by decide), if_neg (show ¬ (3 : Int) = 6 by decide), if_neg (show ¬ (3 : Int) = 2 by decide), if_pos rfl]
  simp only
  rw [hmk6, if_neg (by decide), hmk7, if_neg (by decide), exp_ok (c := 93) hmk5]
  show Except.ok _ = _
  congr 1
  refine RdS.eq ?_ rfl rfl rfl ?_ rfl rfl rfl rfl
  ·show s.at' + 1 + (commaL g l).length + 1 = s.at' + (pL 91 :: (commaL g l ++ ([] ++ [pL 93]))).length
   simp only [List.length_append, List.length_cons, List.length_nil]
   omega
  ·show listT ([] ++ ini ++ [last]) nilT = listT (nrTs seen l).1 nilT
   rw [i1]
   rfl
 ·obtain ⟨ini, last, p, i1, i2⟩ := reads_items H g l hl h ((s.go 1).await ⟨3, 0, [], 0, []⟩ 999) ⟨3, s.most, [], 0, []⟩ s.wait seen 124 (y ++ pL 93 :: b :: r) rfl rfl rfl (.inr rfl) hs1 ha2 (.inr (.inr rfl))
  rw [i2]
  have hft := fit_nrTs l seen (fun x hx => (h x hx).1) hs.fit
  have ha5 : AtL ts (s.at' + 1 + (commaL g l).length) (pL 124 :: (y ++ pL 93 :: b :: r)) := at_app _ _ _ ha2
  have hR : RestOk o (pL 124) 1200 true := rest_c H 124 (.inr (.inr rfl)) 1200 true
  have hno := hR.noOp (s := ⟨s.at' + 1 + (commaL g l).length, ⟨3, s.most, [], 0, [] ++ ini⟩ :: s.wait, 999, true, last, p, varsOf 0 (nrTs seen l).2, varsOf 0 (nrTs seen l).2, ((nrTs seen l).2.length : Int)⟩) ha5 (by show (999 : Int) ≤ 1200; decide)
  have hmk6 : isP ts (s.at' + 1 + (commaL g l).length) 44 = false := by rw [at_mark ha5]; rfl
  have hmk7 : isP ts (s.at' + 1 + (commaL g l).length) 124 = true := by rw [at_mark ha5]; rfl
  have e2 : backF ts ⟨s.at' + 1 + (commaL g l).length, ⟨3, s.most, [], 0, [] ++ ini⟩ :: s.wait, 999, true, last, p, varsOf 0 (nrTs seen l).2, varsOf 0 (nrTs seen l).2, ((nrTs seen l).2.length : Int)⟩ ⟨3, s.most, [], 0, [] ++ ini⟩ s.wait = .ok ⟨s.at' + 1 + (commaL g l).length + 1, ⟨4, s.most, [], 0, [] ++ ini ++ [last]⟩ :: s.wait, 999, false, last, p, varsOf 0 (nrTs seen l).2, varsOf 0 (nrTs seen l).2, ((nrTs seen l).2.length : Int)⟩ := by
   unfold backF backG
   rw [if_neg (show ¬ (3 : Int) = 0 by decide), if_neg (show ¬ (3 : Int) = 1 by decide), if_neg (show ¬ (3 : Int) = 5 by decide), if_neg (show ¬ (3 : Int) = 6 by decide), if_neg (show ¬ (3 : Int) = 2 by decide), if_pos rfl]
   simp only
   rw [hmk6, if_neg (by decide), hmk7, if_pos rfl]
   rfl
  have e3 := lx_round_back (o := o) (ts := ts) (s := ⟨s.at' + 1 + (commaL g l).length, ⟨3, s.most, [], 0, [] ++ ini⟩ :: s.wait, 999, true, last, p, varsOf 0 (nrTs seen l).2, varsOf 0 (nrTs seen l).2, ((nrTs seen l).2.length : Int)⟩) rfl hno rfl e2
  refine Eq.trans e3 ?_
  have ha6 := at_next ha5
  have hs6 : SeenIs ⟨s.at' + 1 + (commaL g l).length + 1, ⟨4, s.most, [], 0, [] ++ ini ++ [last]⟩ :: s.wait, 999, false, last, p, varsOf 0 (nrTs seen l).2, varsOf 0 (nrTs seen l).2, ((nrTs seen l).2.length : Int)⟩ (nrTs seen l).2 := ⟨rfl, rfl, rfl, hft⟩
  have hR9 : RestOk o (pL 93) 1200 true := rest_c H 93 (.inr (.inl rfl)) 1200 true
  rw [hy _ (nrTs seen l).2 (pL 93) (b :: r) rfl hs6 ha6 hyp (rest_c H 93 (.inr (.inl rfl)) rb a)]
  have ha7 : AtL ts (s.at' + 1 + (commaL g l).length + 1 + y.length) (pL 93 :: b :: r) := at_app _ _ _ ha6
  have hno2 := hR9.noOp (s := RdS.put ⟨s.at' + 1 + (commaL g l).length + 1, ⟨4, s.most, [], 0, [] ++ ini ++ [last]⟩ :: s.wait, 999, false, last, p, varsOf 0 (nrTs seen l).2, varsOf 0 (nrTs seen l).2, ((nrTs seen l).2.length : Int)⟩ y.length (nrT (nrTs seen l).2 tl) pr) ha7 (by show (999 : Int) ≤ 1200; decide)
  refine lx_round_back rfl hno2 rfl ?_
  have hmk5 : isP ts (s.at' + 1 + (commaL g l).length + 1 + y.length) 93 = true := by rw [at_mark ha7]; rfl
  unfold backF backG
  rw [if_neg (show ¬ (4 : Int) = 0 by decide), if_neg (show ¬ (4 : Int) = 1 by decide), if_neg (show ¬ (4 : Int) = 5 by decide), if_neg (show ¬ (4 : Int) = 6 by decide), if_neg (show ¬ (4 : Int) = 2 by decide), if_neg (show ¬ (4 : Int) = 3 by decide), if_pos rfl]
  rw [exp_ok (c := 93) hmk5]
  show Except.ok _ = _
  congr 1
  refine RdS.eq ?_ rfl rfl rfl ?_ rfl rfl rfl rfl
  ·show s.at' + 1 + (commaL g l).length + 1 + y.length + 1 = s.at' + (pL 91 :: (commaL g l ++ ((pL 124 :: y) ++ [pL 93]))).length
   simp only [List.length_append, List.length_cons, List.length_nil]
   omega
  ·show listT ([] ++ ini ++ [last]) (nrT (nrTs seen l).2 tl).1 = listT (nrTs seen l).1 (nrT (nrTs seen l).2 tl).1
   rw [i1]
   rfl
end
end Go.Proofs.YtcallkljcjimiaaGreatDoor
namespace Go.Proofs.YtcallkljcjimiaaGreatDoor
section
variable {o : OpsF} {ts : List Tok}
theorem nm_op (H : TabOk o) {nm : List UInt8} (h : 0 < (o.pre nm).1 ∨ 0 < (o.inf nm).1 ∨ 0 < (o.post nm).1) : ¬ (nm = [91, 93] ∨ nm = [123, 125]) := fun e => by
 have := H.nil nm e
 omega
theorem reads_pre (H : TabOk o) {nm : List UInt8} (hn : 0 < (o.pre nm).1) {l : List Lxm} {x : Tm} {px rx : Int} {ax a : Bool} (hne : l ≠ []) (h : Reads o ts l x px rx ax) (hp : px ≤ (o.pre nm).2) (hb : rx ≤ (o.pre nm).2) (hax : ax = true → a = true)
    (hbeg : ∀ i r, AtL ts i (l ++ r) → beginsF o (peekF ts i) = true) : Reads o ts (nmL nm ++ spL l) (compT nm [x]) (o.pre nm).1 (o.pre nm).2 a := by
 intro s seen b r hv hs ha hm hr
 obtain ⟨y, hy, hyk, hys, -⟩ := nm_one (nm_op H (.inl hn))
 have ha1 : AtL ts s.at' (y :: (spL l ++ b :: r)) := by rw [hy] at ha; simpa using ha
 obtain ⟨h1, -, h3, h4, -⟩ := at_head ha1
 have ha2 := at_next ha1
 have hbg := hbeg _ _ (at_unsp hne ha2)
 have hsp : opnL (spL l ++ b :: r) = false ∧ (peekF ts (s.at' + 1)).tight = false := by
  cases l with
  | nil => exact absurd rfl hne
  | cons z w => exact ⟨rfl, by rw [at_tight (a := y) (b := { z with sp := true }) (r := w ++ b :: r) ha1]; rfl⟩
 have e1 : primaryF o ts s = .ok ((s.go 1).await ⟨5, 0, nm, (o.pre nm).1, []⟩ (o.pre nm).2) := by
  rw [prim_atom h1 hyk]
  unfold atomF
  simp only
  rw [h1, h3, h4, hys, hsp.1, hsp.2, if_neg (by simp), if_neg (by decide), if_pos ⟨hn, hm, hbg⟩]
 rw [round_prim' hv e1]
 have hs1 := hs.await 1 ⟨5, 0, nm, (o.pre nm).1, []⟩ (o.pre nm).2
 have ha3 := at_unsp hne ha2
 rw [h _ seen b r rfl hs1 ha3 hp (hr.less hb hax)]
 have ha4 := at_app l (b :: r) (s.at' + 1) ha3
 have hno : operatorF o ts (((s.go 1).await ⟨5, 0, nm, (o.pre nm).1, []⟩ (o.pre nm).2).put l.length (nrT seen x) px) = none := hr.noOp ha4 (Int.le_refl _)
 refine lx_round_back rfl hno rfl ?_
 unfold backF backG
 rw [if_neg (show ¬ (5 : Int) = 0 by decide), if_neg (show ¬ (5 : Int) = 1 by decide), if_pos rfl]
 congr 1
 rw [nrT_comp, nrTs, nrTs]
 refine RdS.eq ?_ rfl rfl rfl rfl rfl rfl rfl rfl
 show s.at' + 1 + l.length = s.at' + (nmL nm ++ spL l).length
 rw [hy]
 cases l with
 | nil => exact absurd rfl hne
 | cons z w =>
  simp only [spL, List.length_append, List.length_cons, List.length_nil]
  omega
theorem reads_post (H : TabOk o) {nm : List UInt8} (hn : 0 < (o.post nm).1) {l : List Lxm} {x : Tm} {px rx : Int} (h : Reads o ts l x px rx false) (hp : px ≤ (o.post nm).2) (hb : rx < (o.post nm).1) (a : Bool) :
    Reads o ts (l ++ spL (nmL nm)) (compT nm [x]) (o.post nm).1 0 a := by
 intro s seen b r hv hs ha hm hr
 obtain ⟨y, hy, hyk, hys, -⟩ := nm_one (nm_op H (.inr (.inr hn)))
 have hpo := H.post nm
 have hin : (o.inf nm).1 = 0 := by have := H.apart nm; omega
 rw [hy] at ha ⊢
 have ha1 : AtL ts s.at' (l ++ { y with sp := true } :: b :: r) := by simpa [spL] using ha
 have hR : RestOk o { y with sp := true } rx false := by
  refine ⟨rfl, by rcases hyk with e | e <;> simp [e], fun e => by have e : y.kind = 6 := e; omega, fun _ => ?_, fun e => by cases e⟩
  show (0 < (o.inf y.s).1 → _) ∧ (0 < (o.post y.s).1 → _)
  rw [hys]
  exact ⟨fun e => by omega, fun _ => hb⟩
 rw [h s seen _ _ hv hs ha1 (by omega) hR]
 have ha2 := at_app _ _ _ ha1
 obtain ⟨h1, -, h3, -, -⟩ := at_head ha2
 refine lx_round_op rfl ?_
 unfold operatorF
 simp only
 rw [show (s.put l.length (nrT seen x) px).at' = s.at' + l.length from rfl, h1, h3, if_neg (fun e => by have e1 : y.kind ≠ 1 := e.1; have e2 : y.kind ≠ 2 := e.2.1; omega)]
 show (if 0 < (o.inf y.s).1 ∧ _ then _ else if 0 < (o.post y.s).1 ∧ (o.post y.s).1 ≤ s.most ∧ px ≤ (o.post y.s).2 then _ else _) = _
 rw [hys, if_neg (fun e => by omega), if_pos ⟨hn, hm, hp⟩]
 congr 1
 rw [nrT_comp, nrTs, nrTs]
 refine RdS.eq ?_ rfl rfl rfl rfl rfl rfl rfl rfl
 show s.at' + l.length + 1 = s.at' + (l ++ spL [y]).length
 simp only [spL, List.length_append, List.length_cons, List.length_nil]
 omega
def midL (nm : List UInt8) (l : List Lxm) : List Lxm := if nm = [44] then pL 44 :: l else spL (nmL nm) ++ spL l
theorem reads_inf (H : TabOk o) {nm : List UInt8} (hn : 0 < (o.inf nm).1) {l l2 : List Lxm} {x y : Tm} {px rx py ry : Int} {ay a : Bool} (hw : WfT x) (h : Reads o ts l x px rx false) (hp : px ≤ (o.inf nm).2.1) (hb : rx < (o.inf nm).1)
    (hne : l2 ≠ []) (h2 : Reads o ts l2 y py ry ay) (hpy : py ≤ (o.inf nm).2.2) (hby : ry ≤ (o.inf nm).2.2) (hay : ay = true → a = true) :
    Reads o ts (l ++ midL nm l2) (compT nm [x, y]) (o.inf nm).1 (o.inf nm).2.2 a := by
 intro s seen b r hv hs ha hm hr
 have hio := H.inf nm
 have hpo : (o.post nm).1 = 0 := by have := H.apart nm; omega
 obtain ⟨c, hcs, hR, hk, e2⟩ : ∃ c : Lxm, c.s = nm ∧ RestOk o c rx false ∧ (c.kind = 1 ∨ c.kind = 2 ∨ (c.kind = 6 ∧ nm = [44])) ∧ AtL ts s.at' (l ++ c :: (if nm = [44] then l2 ++ b :: r else spL l2 ++ b :: r)) := by
  unfold midL at ha
  by_cases hc : nm = [44]
  ·subst hc
   rw [if_pos rfl] at ha
   refine ⟨pL 44, rfl, ⟨rfl, .inr (.inr (.inl rfl)), fun _ => by show ¬ _; decide, fun _ => ?_, fun e => by cases e⟩, .inr (.inr ⟨rfl, rfl⟩), by simpa using ha⟩
   show (0 < (o.inf [44]).1 → rx < (o.inf [44]).1) ∧ (0 < (o.post [44]).1 → rx < (o.post [44]).1)
   exact ⟨fun _ => hb, fun e => by omega⟩
  ·rw [if_neg hc] at ha ⊢
   obtain ⟨y, hy, hyk, hys, -⟩ := nm_one (nm_op H (.inr (.inl hn)))
   rw [hy] at ha
   refine ⟨{ y with sp := true }, hys, ⟨rfl, by rcases hyk with e | e <;> simp [e], fun e => by have e : y.kind = 6 := e; omega, fun _ => ?_, fun e => by cases e⟩, by rcases hyk with e | e <;> simp [e], by simpa [spL] using ha⟩
   show (0 < (o.inf y.s).1 → rx < (o.inf y.s).1) ∧ (0 < (o.post y.s).1 → rx < (o.post y.s).1)
   rw [hys]
   exact ⟨fun _ => hb, fun e => by omega⟩
 rw [h s seen _ _ hv hs e2 (by omega) hR]
 have ha2 := at_app _ _ _ e2
 obtain ⟨h1, -, h3, -, -⟩ := at_head ha2
 have hs1 : SeenIs (s.put l.length (nrT seen x) px) (nrT seen x).2 := ⟨rfl, rfl, rfl, fit_nrT x seen hw hs.fit⟩
 have e3 : operatorF o ts (s.put l.length (nrT seen x) px) = some (((s.put l.length (nrT seen x) px).go 1).await ⟨6, 0, nm, (o.inf nm).1, [(nrT seen x).1]⟩ (o.inf nm).2.2) := by
  unfold operatorF
  simp only
  rw [show (s.put l.length (nrT seen x) px).at' = s.at' + l.length from rfl, h1, h3, hcs, at_mark ha2, if_neg, if_pos ⟨hn, hm, hp⟩]
  ·rfl
  ·rintro ⟨q1, q2, q3⟩
   rcases hk with e | e | ⟨e, e'⟩
   ·exact q1 e
   ·exact q2 e
   ·rw [hcs, decide_eq_true e, decide_eq_true e'] at q3
    cases q3
 rw [lx_round_op rfl e3]
 have ha3 : AtL ts (s.at' + l.length + 1) (l2 ++ b :: r) := by
  have q := at_next ha2
  by_cases hc : nm = [44]
  ·rwa [if_pos hc] at q
  ·rw [if_neg hc] at q
   exact at_unsp hne q
 rw [h2 _ (nrT seen x).2 b r rfl (hs1.await 1 _ _) ha3 hpy (hr.less hby hay)]
 have ha4 : AtL ts (s.at' + l.length + 1 + l2.length) (b :: r) := at_app _ _ _ ha3
 have hno := hr.noOp (s := (((s.put l.length (nrT seen x) px).go 1).await ⟨6, 0, nm, (o.inf nm).1, [(nrT seen x).1]⟩ (o.inf nm).2.2).put l2.length (nrT (nrT seen x).2 y) py) ha4 (Int.le_refl _)
 refine lx_round_back rfl hno rfl ?_
 unfold backF backG
 rw [if_neg (show ¬ (6 : Int) = 0 by decide), if_neg (show ¬ (6 : Int) = 1 by decide), if_neg (show ¬ (6 : Int) = 5 by decide), if_pos rfl]
 congr 1
 rw [nrT_comp, nrTs, nrTs, nrTs]
 refine RdS.eq ?_ rfl rfl rfl rfl rfl rfl rfl rfl
 show s.at' + l.length + 1 + l2.length = s.at' + (l ++ midL nm l2).length
 unfold midL
 by_cases hc : nm = [44]
 ·rw [if_pos hc]
  simp only [List.length_append, List.length_cons]
  omega
 ·rw [if_neg hc]
  obtain ⟨y, hy, -⟩ := nm_one (nm_op H (.inr (.inl hn)))
  rw [hy]
  cases l2 with
  | nil => exact absurd rfl hne
  | cons z w =>
   simp only [spL, List.length_append, List.length_cons, List.length_nil]
   omega
end
section
variable {o : OpsF} {es : List (OpK × OpV)} {way : Int}
def prW (es : List (OpK × OpV)) (way : Int) (t : Tm) (m : Int) : Int := match operF es way t with
 | some p => if m < p.pri then 0 else p.pri
 | none => 0
def rbW (o : OpsF) (es : List (OpK × OpV)) (way : Int) (t : Tm) (m : Int) : Int := match operF es way t with
 | some p => if m < p.pri then 0 else rightOf o p
 | none => 0
theorem oper_is (hes : way ≠ 2 → o = opsOf es) {t : Tm} {p : OpR} (h : operF es way t = some p) : OperIs o p := by
 unfold operF at h
 split at h
 ·cases h
 ·rename_i hn
  have hw : way ≠ 2 := fun e => hn (.inl e)
  rw [hes hw]
  split at h
  ·split at h
   ·injection h with h
    subst h
    exact ⟨fun _ => rfl, fun e => absurd e (by show ¬ (1 : Int) = 2; decide), fun e => absurd e (by show ¬ (1 : Int) = 3; decide), by assumption, .inl rfl⟩
   ·split at h
    ·injection h with h
     subst h
     exact ⟨fun e => absurd e (by show ¬ (3 : Int) = 1; decide), fun e => absurd e (by show ¬ (3 : Int) = 2; decide), fun _ => rfl, by assumption, .inr (.inr rfl)⟩
    ·cases h
  ·split at h
   ·split at h
    ·injection h with h
     subst h
     exact ⟨fun e => absurd e (by show ¬ (2 : Int) = 1; decide), fun _ => ⟨rfl, rfl, rfl⟩, fun e => absurd e (by show ¬ (2 : Int) = 3; decide), by assumption, .inr (.inl rfl)⟩
    ·cases h
   ·cases h
theorem oper_way {t : Tm} {p : OpR} (h : operF es way t = some p) : way ≠ 2 := by
 rintro rfl
 unfold operF at h
 rw [if_pos (.inl rfl)] at h
 cases h
theorem pr_le (H : TabOk o) (hes : way ≠ 2 → o = opsOf es) (t : Tm) (m : Int) (hm : 0 ≤ m ∧ m ≤ 1200) : 0 ≤ prW es way t m ∧ prW es way t m ≤ m ∧ rbW o es way t m ≤ prW es way t m := by
 unfold prW rbW
 cases h : operF es way t with
 | none => exact ⟨Int.le_refl _, hm.1, Int.le_refl _⟩
 | some p =>
  simp only
  have h1 := oper_is hes h
  have h2 := h1.right H
  have h3 := h1.pos
  split
  ·exact ⟨Int.le_refl _, hm.1, Int.le_refl _⟩
  ·exact ⟨by omega, by omega, h2.2.1⟩
theorem notOp {n : List UInt8} (h : isOp es n = false) : ((opsOf es).pre n).1 = 0 ∧ ((opsOf es).inf n).1 = 0 ∧ ((opsOf es).post n).1 = 0 := by
 unfold isOp at h
 simp only [Bool.or_eq_false_iff, Option.isSome_eq_false_iff, Option.isNone_iff_eq_none] at h
 obtain ⟨h1, h2, h3⟩ := h
 refine ⟨?_, ?_, ?_⟩
 ·show (tsides es 1 n).1 = 0
  unfold tsides
  rw [h1]
 ·show (tsides es 2 n).1 = 0
  unfold tsides
  rw [h2]
 ·show (tsides es 3 n).1 = 0
  unfold tsides
  rw [h3]
theorem not_within {t : Tm} {q : OpR} {same : Bool} (h : withinF es way t q same = false) :
    (t.k = 3 → isOp es t.s = false) ∧ (t.k = 2 → ¬ t.n < 0) ∧ (∀ p, operF es way t = some p → p.pri < q.pri ∨ (same = true ∧ p.side = 2 ∧ p.name = q.name)) := by
 unfold withinF at h
 refine ⟨fun hk => ?_, fun hk => ?_, fun p hp => ?_⟩
 ·rwa [if_pos hk] at h
 ·rw [if_neg (by omega), if_pos hk] at h
  simpa using h
 ·obtain ⟨-, hk, -⟩ := oper_name hp
  rw [if_neg (by omega), if_neg (by omega), if_pos hk, hp] at h
  simp only [Bool.and_eq_false_iff, decide_eq_false_iff_not, Bool.not_eq_false', Bool.and_eq_true, decide_eq_true_eq] at h
  rcases h with h | ⟨h1, h2, h3⟩
  ·left
   omega
  ·exact .inr ⟨h1, h2, h3⟩
end
end Go.Proofs.YtcallkljcjimiaaGreatDoor
namespace Go.Proofs.YtcallkljcjimiaaGreatDoor
section
variable {o : OpsF} {es : List (OpK × OpV)} {way : Int}
theorem opens_p {c : UInt8} (hc : c = 40 ∨ c = 91 ∨ c = 123) (r : List Lxm) : Opens (pL c :: r) :=
 ⟨_, _, rfl, fun _ => by rcases hc with rfl | rfl | rfl <;> simp [pL]⟩
theorem opens_nm (s : List UInt8) : Opens (nmL s) := by
 by_cases h : s = [91, 93] ∨ s = [123, 125]
 ·rcases h with rfl | rfl
  ·exact opens_p (.inr (.inl rfl)) _
  ·exact opens_p (.inr (.inr rfl)) _
 ·obtain ⟨x, hx, hk, -⟩ := nm_one h
  exact ⟨x, [], hx, fun e => by omega⟩
theorem opens_int (n : Int) : Opens (inL n) := by
 unfold inL
 split
 ·exact ⟨_, _, rfl, fun e => absurd e (by show ¬ (1 : Int) = 6; decide)⟩
 ·exact ⟨_, _, rfl, fun e => absurd e (by show ¬ (3 : Int) = 6; decide)⟩
theorem opens_comma (g : Tm → Int → List Lxm) : ∀ (l : List Tm), l ≠ [] → (∀ t ∈ l, Opens (g t 999)) → Opens (commaL g l)
 | [], h, _ => absurd rfl h
 | [t], _, h => h t (by simp)
 | t :: _ :: _, _, h => (h t (by simp)).app _
theorem opens_opd (g : Tm → Int → List Lxm) (t : Tm) (p : OpR) (same : Bool) (h : Opens (g t 1200)) : Opens (opdL es way g t p same) := by
 unfold opdL
 split
 ·exact opens_p (.inl rfl) _
 ·exact h
theorem opens_lx : ∀ (f : Nat) (t : Tm) (m : Int), t.size ≤ f → WfT t → Opens (lxF es way f t m)
 | 0, t, _, h, _ => by have := size_pos t; omega
 | f + 1, t, m, h, hw => by
  unfold lxF lxStep
  by_cases h1 : t.k = 1
  ·rw [if_pos h1]
   exact ⟨_, _, rfl, fun e => absurd e (by show ¬ (4 : Int) = 6; decide)⟩
  by_cases h2 : t.k = 2
  ·rw [if_neg h1, if_pos h2]
   exact opens_int _
  by_cases h3 : t.k = 3
  ·rw [if_neg h1, if_neg h2, if_pos h3]
   exact opens_nm _
  rw [if_neg h1, if_neg h2, if_neg h3]
  unfold cmpL
  split
  ·exact opens_p (.inr (.inl rfl)) _
  ·split
   ·exact opens_p (.inr (.inr rfl)) _
   ·split
    ·exact (opens_nm _).app _
    ·rename_i p hp
     obtain ⟨_, _, h7⟩ := oper_name hp
     split
     ·exact opens_p (.inl rfl) _
     ·have h0 : 0 < t.args.length := by omega
      have ih := opens_opd (es := es) (way := way) (lxF es way f) (t.args.getD 0 noTm) p
      have ih0 := opens_lx f (t.args.getD 0 noTm) 1200 (by have := arg_size h0; omega) (hw.arg h0)
      unfold opeL
      split
      ·exact (opens_nm _).app _
      ·split
       ·exact (ih _ ih0).app _
       ·exact (ih _ ih0).app _
theorem lx_begins_p {c : UInt8} (hc : c = 40 ∨ c = 91 ∨ c = 123) (y : List Lxm) : Begins o (pL c :: y) := fun ts i r ha => by
 obtain ⟨h1, -, h3, -⟩ := at_head (a := pL c) (r := y ++ r) ha
 unfold beginsF
 rw [h1, h3, if_neg (by show ¬ ((6 : Int) = 3 ∨ (6 : Int) = 4 ∨ (6 : Int) = 5); decide), if_pos (by rfl)]
 rcases hc with rfl | rfl | rfl <;> decide
theorem begins_num {a : Lxm} (ha : a.kind = 3 ∨ a.kind = 4) (y : List Lxm) : Begins o (a :: y) := fun ts i r h => by
 obtain ⟨h1, -⟩ := at_head (a := a) (r := y ++ r) h
 unfold beginsF
 rw [h1, if_pos (by omega)]
theorem begins_nm {s : List UInt8} (y : List Lxm) (h : opnL y = true ∧ y ≠ [] ∨ ((o.inf s).1 = 0 ∧ (o.post s).1 = 0) ∨ 0 < (o.pre s).1) : Begins o (nmL s ++ y) := by
 by_cases hs : s = [91, 93] ∨ s = [123, 125]
 ·rcases hs with rfl | rfl
  ·exact lx_begins_p (.inr (.inl rfl)) _
  ·exact lx_begins_p (.inr (.inr rfl)) _
 ·obtain ⟨x, hx, hk, hxs, -⟩ := nm_one hs
  rw [hx]
  intro ts i r ha
  obtain ⟨h1, -, h3, h4, -⟩ := at_head (a := x) (r := y ++ r) ha
  unfold beginsF
  rw [h1, h3, h4, hxs, if_neg (by omega), if_neg (by omega), if_pos hk]
  rcases h with ⟨h, hy⟩ | h
  ·have : opnL (y ++ r) = true := by
    cases y with
    | nil => exact absurd rfl hy
    | cons a b => exact h
   rw [if_pos this]
  ·split
   ·rfl
   ·exact decide_eq_true h
theorem begins_lx (hes : way ≠ 2 → o = opsOf es) (hway : way ≠ 2 ∨ way = 2) : ∀ (f : Nat) (t : Tm) (m : Int), t.size ≤ f → WfT t → (t.k = 3 → (o.inf t.s).1 = 0 ∧ (o.post t.s).1 = 0) → (t.k = 2 → ¬ t.n < 0) → Begins o (lxF es way f t m)
 | 0, t, _, h, _, _, _ => by have := size_pos t; omega
 | f + 1, t, m, h, hw, hat, hng => by
  unfold lxF lxStep
  by_cases h1 : t.k = 1
  ·rw [if_pos h1]
   exact begins_num (.inr rfl) _
  by_cases h2 : t.k = 2
  ·rw [if_neg h1, if_pos h2]
   unfold inL
   rw [if_neg (hng h2)]
   exact begins_num (.inl rfl) _
  by_cases h3 : t.k = 3
  ·rw [if_neg h1, if_neg h2, if_pos h3]
   have := begins_nm (o := o) (s := t.s) [] (.inr (.inl (hat h3)))
   rwa [List.append_nil] at this
  rw [if_neg h1, if_neg h2, if_neg h3]
  unfold cmpL
  split
  ·exact lx_begins_p (.inr (.inl rfl)) _
  ·split
   ·exact lx_begins_p (.inr (.inr rfl)) _
   ·split
    ·exact begins_nm _ (.inl ⟨rfl, by simp⟩)
    ·rename_i p hp
     obtain ⟨hnm, _, h7⟩ := oper_name hp
     have hop := oper_is hes hp
     have hw2 := oper_way hp
     split
     ·exact lx_begins_p (.inl rfl) _
     ·have h0 : 0 < t.args.length := by omega
      have ih : ∀ same, Begins o (opdL es way (lxF es way f) (t.args.getD 0 noTm) p same) := fun same => by
       unfold opdL
       cases hwi : withinF es way (t.args.getD 0 noTm) p same with
       | true => exact lx_begins_p (.inl rfl) _
       | false =>
        obtain ⟨q1, q2, -⟩ := not_within hwi
        refine begins_lx hes hway f _ 1200 (by have := arg_size h0; omega) (hw.arg h0) (fun hk => ?_) q2
        rw [hes hw2]
        exact (notOp (q1 hk)).2
      unfold opeL
      by_cases s1 : p.side = 1
      ·rw [if_pos s1]
       refine begins_nm _ (.inr (.inr ?_))
       have := hop.one s1
       have := hop.pos
       omega
      ·rw [if_neg s1]
       split
       ·exact (ih _).app _
       ·exact (ih _).app _
theorem consF_list : ∀ (f : Nat) (t : Tm), WfT t → listT (consF f t).1 (consF f t).2 = t
 | 0, t, _ => rfl
 | f + 1, t, hw => by
  unfold consF
  by_cases hc : consT t = true
  ·rw [if_pos hc]
   obtain ⟨h4, h5, h6⟩ := consT_len hc
   have ih := consF_list f (t.args.getD 1 noTm) (hw.arg (by omega))
   show compT [46] [t.args.getD 0 noTm, listT (consF f (t.args.getD 1 noTm)).1 (consF f (t.args.getD 1 noTm)).2] = t
   rw [ih]
   have ht := wf_comp hw h4
   rw [h5] at ht
   have hl : [t.args.getD 0 noTm, t.args.getD 1 noTm] = t.args := by
    obtain ⟨k, n, s, l⟩ := t
    match l, h6 with
    | [a, b], _ => rfl
   rw [hl]
   exact ht.symm
  ·rw [if_neg hc]
   rfl
theorem one_arg {l : List Tm} (h : l.length = 1) : [l.getD 0 noTm] = l := by
 match l, h with
 | [a], _ => rfl
theorem two_args {l : List Tm} (h : l.length = 2) : [l.getD 0 noTm, l.getD 1 noTm] = l := by
 match l, h with
 | [a, b], _ => rfl
theorem reads_lx (H : TabOk o) (hes : way ≠ 2 → o = opsOf es) (ts : List Tok) : ∀ (f : Nat) (t : Tm) (m : Int) (a : Bool), t.size ≤ f → WfT t → 0 ≤ m ∧ m ≤ 1200 → (t.k = 3 → 0 < (o.pre t.s).1 → a = true) →
    Reads o ts (lxF es way f t m) t (prW es way t m) (rbW o es way t m) a
 | 0, t, _, _, h, _, _, _ => by have := size_pos t; omega
 | f + 1, t, m, a, h, hw, hm, hat => by
  have hnone : ∀ hk : t.k ≠ 4, prW es way t m = 0 ∧ rbW o es way t m = 0 := fun hk => by
   have e : operF es way t = none := by unfold operF; rw [if_pos (.inr (.inl hk))]
   unfold prW rbW
   rw [e]
   exact ⟨rfl, rfl⟩
  have ih : ∀ (x : Tm) (m : Int) (a : Bool), x.size < t.size → WfT x → 0 ≤ m ∧ m ≤ 1200 → (x.k = 3 → 0 < (o.pre x.s).1 → a = true) → Reads o ts (lxF es way f x m) x (prW es way x m) (rbW o es way x m) a := fun x m a hx hwx hm ha => reads_lx H hes ts f x m a (by omega) hwx hm ha
  have hop : ∀ x : Tm, x.size < t.size → WfT x → ∀ m, Opens (lxF es way f x m) := fun x hx hwx m => opens_lx f x m (by omega) hwx
  have hpart : ∀ x : Tm, x.size < t.size → WfT x → WfT x ∧ ∃ pr rb a, Reads o ts (lxF es way f x 999) x pr rb a ∧ pr ≤ 999 ∧ rb ≤ 999 := fun x hx hwx => by
   have h1 := pr_le H hes x 999 (by decide)
   exact ⟨hwx, _, _, true, ih x 999 true hx hwx (by decide) (fun _ _ => rfl), by omega, by omega⟩
  unfold lxF lxStep
  by_cases h1 : t.k = 1
  ·rw [if_pos h1, (hnone (by omega)).1, (hnone (by omega)).2]
   exact reads_var hw h1 _ _
  by_cases h2 : t.k = 2
  ·rw [if_neg h1, if_pos h2, (hnone (by omega)).1, (hnone (by omega)).2]
   exact reads_int hw h2 _ _
  by_cases h3 : t.k = 3
  ·rw [if_neg h1, if_neg h2, if_pos h3, (hnone (by omega)).1, (hnone (by omega)).2]
   exact reads_atom hw h3 _ _ (hat h3)
  rw [if_neg h1, if_neg h2, if_neg h3]
  have h4 : t.k = 4 := by rcases hw.kind with h | h | h | h <;> first | exact h | contradiction
  have hmem : ∀ x ∈ t.args, x.size < t.size ∧ WfT x := fun x hx => ⟨by have h1 := mem_sizes t.args x hx; have h2 := size_args t; omega, hw.mem hx⟩
  have ht := wf_comp hw h4
  unfold cmpL
  by_cases hc : consT t = true
  ·rw [if_pos hc]
   have e : operF es way t = none := by unfold operF; rw [if_pos (.inr (.inr hc))]
   have e1 : prW es way t m = 0 ∧ rbW o es way t m = 0 := by unfold prW rbW; rw [e]; exact ⟨rfl, rfl⟩
   rw [e1.1, e1.2]
   obtain ⟨i1, _, i3⟩ := consF_size t.size t
   obtain ⟨w1, w2⟩ := consF_wf t.size t hw
   have i3 := i3 hc (size_pos t)
   have hne : (consF t.size t).1 ≠ [] := by
    have := consF_pos hc (size_pos t)
    intro e
    rw [e] at this
    exact absurd this (by decide)
   have hl := consF_list t.size t hw
   have hR := reads_list H (ts := ts) (lxF es way f) (consF t.size t).1 (consF t.size t).2 hne (fun x hx => hpart x (i1 x hx) (w1 x hx)) ((opens_comma _ _ hne fun x hx => hop x (i1 x hx) (w1 x hx) 999).off (.inl rfl)) (tailL (lxF es way f) (consF t.size t).2) (by
    unfold tailL
    split
    ·rename_i hn
     left
     refine ⟨rfl, ?_⟩
     have := wf_atom w2 hn.1
     rw [this, hn.2]
     rfl
    ·right
     have h1 := hpart _ i3 w2
     exact ⟨_, rfl, h1.2⟩) 0 a
   rw [hl] at hR
   exact hR
  rw [if_neg hc]
  by_cases hb : way ≠ 2 ∧ t.s = [123, 125] ∧ t.args.length = 1
  ·rw [if_pos hb]
   have h0 : 0 < t.args.length := by omega
   have hx := arg_size h0
   have hwx := hw.arg h0
   have e : operF es way t = none := by
    have hn := H.nil [123, 125] (.inr rfl)
    rw [hes hb.1] at hn
    unfold operF
    rw [if_neg (by rintro (e | e | e); exact hb.1 e; exact e h4; exact hc e), if_pos hb.2.2, hb.2.1]
    rw [if_neg (by have : (tsides es 1 [123, 125]).1 = 0 := hn.1; omega), if_neg (by have : (tsides es 3 [123, 125]).1 = 0 := hn.2.2; omega)]
   have e1 : prW es way t m = 0 ∧ rbW o es way t m = 0 := by unfold prW rbW; rw [e]; exact ⟨rfl, rfl⟩
   rw [e1.1, e1.2]
   have hp := pr_le H hes (t.args.getD 0 noTm) 1200 (by decide)
   have hR := reads_brace H (ih _ 1200 true hx hwx (by decide) (fun _ _ => rfl)) (by omega) (by omega) ((hop _ hx hwx 1200).off (.inr rfl)) 0 a
   rw [one_arg hb.2.2, ← hb.2.1, ← ht] at hR
   exact hR
  rw [if_neg hb]
  cases ho : operF es way t with
  | none =>
   have e1 : prW es way t m = 0 ∧ rbW o es way t m = 0 := by unfold prW rbW; rw [ho]; exact ⟨rfl, rfl⟩
   rw [e1.1, e1.2]
   have hR := reads_func H (ts := ts) (lxF es way f) t.s t.args (args_ne hw h4) (fun x hx => hpart x (hmem x hx).1 (hmem x hx).2) 0 a
   rw [← ht] at hR
   exact hR
  | some p =>
   obtain ⟨hnm, _, h7⟩ := oper_name ho
   have hp := oper_is hes ho
   have hw2 := oper_way ho
   have hpr := hp.right H
   have hpos := hp.pos
   -- an operand
   have hopd : ∀ (i : Nat) (same : Bool), i < t.args.length → Opens (opdL es way (lxF es way f) (t.args.getD i noTm) p same) ∧ Begins o (opdL es way (lxF es way f) (t.args.getD i noTm) p same) ∧
       ∃ px rx, Reads o ts (opdL es way (lxF es way f) (t.args.getD i noTm) p same) (t.args.getD i noTm) px rx false ∧ 0 ≤ px ∧ rx ≤ px ∧ (px < p.pri ∨ (same = true ∧ p.side = 2 ∧ px = p.pri ∧ rx = (o.inf p.name).2.2) ∨ (same = true ∧ p.side ≠ 2)) := fun i same hi => by
    have hx := arg_size hi
    have hwx := hw.arg hi
    have hpx := pr_le H hes (t.args.getD i noTm) 1200 (by decide)
    refine ⟨opens_opd _ _ _ _ (hop _ hx hwx 1200), ?_⟩
    unfold opdL
    cases hwi : withinF es way (t.args.getD i noTm) p same with
    | true =>
     refine ⟨lx_begins_p (.inl rfl) _, 0, 0, ?_, Int.le_refl _, Int.le_refl _, .inl hpos⟩
     exact reads_paren H (ih _ 1200 true hx hwx (by decide) (fun _ _ => rfl)) (by omega) (by omega) 0 false
    | false =>
     obtain ⟨q1, q2, q3⟩ := not_within hwi
     have hat3 : (t.args.getD i noTm).k = 3 → (o.pre (t.args.getD i noTm).s).1 = 0 ∧ (o.inf (t.args.getD i noTm).s).1 = 0 ∧ (o.post (t.args.getD i noTm).s).1 = 0 := fun hk => by
      rw [hes hw2]
      exact notOp (q1 hk)
     refine ⟨begins_lx hes (.inl hw2) f _ 1200 (by omega) hwx (fun hk => (hat3 hk).2) q2, _, _, ih _ 1200 false hx hwx (by decide) (fun hk hpo => by have := (hat3 hk).1; omega), hpx.1, hpx.2.2, ?_⟩
     unfold prW rbW
     cases hq : operF es way (t.args.getD i noTm) with
     | none => exact .inl hpos
     | some q =>
      simp only
      have hqr := (oper_is hes hq).right H
      rw [if_neg (by omega), if_neg (by omega)]
      rcases q3 q hq with h5 | ⟨h5, h6, h7⟩
      ·exact .inl h5
      ·have hq2 := ((oper_is hes hq).two h6).1
       by_cases hps : p.side = 2
       ·refine .inr (.inl ⟨h5, hps, ?_, ?_⟩)
        ·rw [hq2, h7, (hp.two hps).1]
        ·unfold rightOf
         rw [if_neg (by omega), if_pos h6, h7]
       ·exact .inr (.inr ⟨h5, hps⟩)
   have hin : Reads o ts (opeL es way (lxF es way f) p t.args) t p.pri (rightOf o p) a := by
    rcases h7 with ⟨hs | hs, hl⟩ | ⟨hs, hl⟩
    ·obtain ⟨o1, o2, px, rx, o3, o4, o5, o6⟩ := hopd 0 false (by omega)
     have hp1 := hp.one hs
     have hpt := H.pre p.name
     have o6 : px < p.pri := by rcases o6 with h | ⟨h, -⟩ | ⟨h, -⟩ <;> first | exact h | cases h
     have hR := reads_pre H (nm := p.name) (by omega) o1.ne o3 (by omega) (by omega) (a := a) (fun e => by cases e) (fun i r ha => o2 ts i r ha)
     unfold opeL rightOf
     rw [if_pos hs, if_pos hs, hp1]
     rw [one_arg hl, hnm, ← ht] at hR
     rw [hnm]
     exact hR
    ·obtain ⟨o1, o2, px, rx, o3, o4, o5, o6⟩ := hopd 0 false (by omega)
     have hp1 := hp.three hs
     have hpt := H.post p.name
     have o6 : px < p.pri := by rcases o6 with h | ⟨h, -⟩ | ⟨h, -⟩ <;> first | exact h | cases h
     have hR := reads_post H (nm := p.name) (by omega) o3 (by omega) (by omega) a
     have n1 : ¬ p.side = 1 := by omega
     have n2 : ¬ p.side = 2 := by omega
     unfold opeL rightOf
     rw [if_neg n1, if_pos hs, if_neg n1, if_neg n2, hp1]
     rw [one_arg hl, hnm, ← ht] at hR
     rw [hnm]
     exact hR
    ·obtain ⟨o1, o2, px, rx, o3, o4, o5, o6⟩ := hopd 0 p.left (by omega)
     obtain ⟨y1, y2, py, ry, y3, y4, y5, y6⟩ := hopd 1 p.right (by omega)
     obtain ⟨hp1, hpl, hpr2⟩ := hp.two hs
     have hpt := H.inf p.name
     have hx : px ≤ (o.inf p.name).2.1 ∧ rx < (o.inf p.name).1 := by
      rcases o6 with h | ⟨h, -, h8, h9⟩ | ⟨-, h⟩
      ·omega
      ·rw [hpl] at h
       have := of_decide_eq_true h
       omega
      ·exact absurd hs h
     have hy : py ≤ (o.inf p.name).2.2 ∧ ry ≤ (o.inf p.name).2.2 := by
      rcases y6 with h | ⟨h, -, h8, h9⟩ | ⟨-, h⟩
      ·omega
      ·rw [hpr2] at h
       have := of_decide_eq_true h
       omega
      ·exact absurd hs h
     have hR := reads_inf H (nm := p.name) (by omega) (hw.arg (by omega)) o3 hx.1 hx.2 y1.ne y3 hy.1 hy.2 (a := a) (fun e => by cases e)
     have n1 : ¬ p.side = 1 := by omega
     have n3 : ¬ p.side = 3 := by omega
     unfold opeL rightOf
     rw [if_neg n1, if_neg n3, if_neg n1, if_pos hs, hp1]
     unfold midL at hR
     rw [two_args hl, hnm, ← ht] at hR
     rw [hnm]
     exact hR
   simp only
   unfold prW rbW
   rw [ho]
   simp only
   by_cases hmp : m < p.pri
   ·rw [if_pos hmp, if_pos hmp, if_pos hmp]
    exact reads_paren H hin (by omega) (by omega) 0 a
   ·rw [if_neg hmp, if_neg hmp, if_neg hmp]
    exact hin
end
end Go.Proofs.YtcallkljcjimiaaGreatDoor
