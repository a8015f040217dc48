import Derived.Test.YtcallkljcjimiaaGreatDoorJG10
import Derived.Test.YtcallkljcjimiaaGreatDoorJW34
import Derived.Test.YtcallkljcjimiaaGreatDoorProg
import Derived.KernelRfl
import Derived.WalkKit
import Derived.WalkSmall
import Derived.Lib.Hide
import Derived.Laws.AppendOwn
import Derived.Laws.MakeOwn
import Derived.Deep.OwnRows
import Derived.Laws.AppendOwnNone
import Derived.Deep.AppendLies
import Derived.Deep.RegionLaw
import Derived.WalkSpells
import Derived.BigQuiet
import Derived.Deep.QuietTactic
import Derived.StillTailTactics
import Derived.IntWalk
import Derived.Maps.Keyed
import Derived.StringKeys
import Derived.Lib.ItoaMem
import Derived.Lib.ItoaNum
import Derived.Shelf.Small.Strs
import Derived.Shelf.Small.Wraps
import Derived.Shelf.LaysM
import Derived.Shelf.Strings.Fields
import Derived.Deep.RegionHeld3
import Derived.Deep.Cut
import Derived.Deep.CutRange
import Derived.Deep.DeepCutAuto
namespace Go.Proofs.YtcallkljcjimiaaGreatDoor
section
variable {o : OpsF} {ts : List Tok}
theorem nm_op (H : TabOk o) {nm : List UInt8} (h : 0 < (o.pre nm).1 ∨ 0 < (o.inf nm).1 ∨ 0 < (o.post nm).1) : ¬ (nm = [91, 93] ∨ nm = [123, 125]) := fun e => by
 have := H.nil nm e
 omega
theorem reads_pre (H : TabOk o) {nm : List UInt8} (hn : 0 < (o.pre nm).1) {l : List Lxm} {x : Tm} {px rx : Int} {ax a : Bool} (hne : l ≠ []) (h : Reads o ts l x px rx ax) (hp : px ≤ (o.pre nm).2) (hb : rx ≤ (o.pre nm).2) (hax : ax = true → a = true)
    (hbeg : ∀ i r, AtL ts i (l ++ r) → beginsF o (peekF ts i) = true) : Reads o ts (nmL nm ++ spL l) (compT nm [x]) (o.pre nm).1 (o.pre nm).2 a := by
 intro s seen b r hv hs ha hm hr
 obtain ⟨y, hy, hyk, hys, -⟩ := nm_one (nm_op H (.inl hn))
 have ha1 : AtL ts s.at' (y :: (spL l ++ b :: r)) := by rw [hy] at ha; simpa using ha
 obtain ⟨h1, -, h3, h4, -⟩ := at_head ha1
 have ha2 := at_next ha1
 have hbg := hbeg _ _ (at_unsp hne ha2)
 have hsp : opnL (spL l ++ b :: r) = false ∧ (peekF ts (s.at' + 1)).tight = false := by
  cases l with
  | nil => exact absurd rfl hne
  | cons z w => exact ⟨rfl, by rw [at_tight (a := y) (b := { z with sp := true }) (r := w ++ b :: r) ha1]; rfl⟩
 have e1 : primaryF o ts s = .ok ((s.go 1).await ⟨5, 0, nm, (o.pre nm).1, []⟩ (o.pre nm).2) := by
  rw [prim_atom h1 hyk]
  unfold atomF
  simp only
  rw [h1, h3, h4, hys, hsp.1, hsp.2, if_neg (by simp), if_neg (by decide), if_pos ⟨hn, hm, hbg⟩]
 rw [round_prim' hv e1]
 have hs1 := hs.await 1 ⟨5, 0, nm, (o.pre nm).1, []⟩ (o.pre nm).2
 have ha3 := at_unsp hne ha2
 rw [h _ seen b r rfl hs1 ha3 hp (hr.less hb hax)]
 have ha4 := at_app l (b :: r) (s.at' + 1) ha3
 have hno : operatorF o ts (((s.go 1).await ⟨5, 0, nm, (o.pre nm).1, []⟩ (o.pre nm).2).put l.length (nrT seen x) px) = none := hr.noOp ha4 (Int.le_refl _)
 refine lx_round_back rfl hno rfl ?_
 unfold backF backG
 rw [if_neg (show ¬ (5 : Int) = 0 by decide), if_neg (show ¬ (5 : Int) = 1 by decide), if_pos rfl]
 congr 1
 rw [nrT_comp, nrTs, nrTs]
 refine RdS.eq ?_ rfl rfl rfl rfl rfl rfl rfl rfl
 show s.at' + 1 + l.length = s.at' + (nmL nm ++ spL l).length
 rw [hy]
 cases l with
 | nil => exact absurd rfl hne
 | cons z w =>
  simp only [spL, List.length_append, List.length_cons, List.length_nil]
  omega
theorem reads_post (H : TabOk o) {nm : List UInt8} (hn : 0 < (o.post nm).1) {l : List Lxm} {x : Tm} {px rx : Int} (h : Reads o ts l x px rx false) (hp : px ≤ (o.post nm).2) (hb : rx < (o.post nm).1) (a : Bool) :
    Reads o ts (l ++ spL (nmL nm)) (compT nm [x]) (o.post nm).1 0 a := by
 intro s seen b r hv hs ha hm hr
 obtain ⟨y, hy, hyk, hys, -⟩ := nm_one (nm_op H (.inr (.inr hn)))
 have hpo := H.post nm
 have hin : (o.inf nm).1 = 0 := by have := H.apart nm; omega
 rw [hy] at ha ⊢
 have ha1 : AtL ts s.at' (l ++ { y with sp := true } :: b :: r) := by simpa [spL] using ha
 have hR : RestOk o { y with sp := true } rx false := by
  refine ⟨rfl, by rcases hyk with e | e <;> simp [e], fun e => by have e : y.kind = 6 := e; omega, fun _ => ?_, fun e => by cases e⟩
  show (0 < (o.inf y.s).1 → _) ∧ (0 < (o.post y.s).1 → _)
  rw [hys]
  exact ⟨fun e => by omega, fun _ => hb⟩
 rw [h s seen _ _ hv hs ha1 (by omega) hR]
 have ha2 := at_app _ _ _ ha1
 obtain ⟨h1, -, h3, -, -⟩ := at_head ha2
 refine lx_round_op rfl ?_
 unfold operatorF
 simp only
 rw [show (s.put l.length (nrT seen x) px).at' = s.at' + l.length from rfl, h1, h3, if_neg (fun e => by have e1 : y.kind ≠ 1 := e.1; have e2 : y.kind ≠ 2 := e.2.1; omega)]
 show (if 0 < (o.inf y.s).1 ∧ _ then _ else if 0 < (o.post y.s).1 ∧ (o.post y.s).1 ≤ s.most ∧ px ≤ (o.post y.s).2 then _ else _) = _
 rw [hys, if_neg (fun e => by omega), if_pos ⟨hn, hm, hp⟩]
 congr 1
 rw [nrT_comp, nrTs, nrTs]
 refine RdS.eq ?_ rfl rfl rfl rfl rfl rfl rfl rfl
 show s.at' + l.length + 1 = s.at' + (l ++ spL [y]).length
 simp only [spL, List.length_append, List.length_cons, List.length_nil]
 omega
def midL (nm : List UInt8) (l : List Lxm) : List Lxm := if nm = [44] then pL 44 :: l else spL (nmL nm) ++ spL l
theorem reads_inf (H : TabOk o) {nm : List UInt8} (hn : 0 < (o.inf nm).1) {l l2 : List Lxm} {x y : Tm} {px rx py ry : Int} {ay a : Bool} (hw : WfT x) (h : Reads o ts l x px rx false) (hp : px ≤ (o.inf nm).2.1) (hb : rx < (o.inf nm).1)
    (hne : l2 ≠ []) (h2 : Reads o ts l2 y py ry ay) (hpy : py ≤ (o.inf nm).2.2) (hby : ry ≤ (o.inf nm).2.2) (hay : ay = true → a = true) :
    Reads o ts (l ++ midL nm l2) (compT nm [x, y]) (o.inf nm).1 (o.inf nm).2.2 a := by
 intro s seen b r hv hs ha hm hr
 have hio := H.inf nm
 have hpo : (o.post nm).1 = 0 := by have := H.apart nm; omega
 obtain ⟨c, hcs, hR, hk, e2⟩ : ∃ c : Lxm, c.s = nm ∧ RestOk o c rx false ∧ (c.kind = 1 ∨ c.kind = 2 ∨ (c.kind = 6 ∧ nm = [44])) ∧ AtL ts s.at' (l ++ c :: (if nm = [44] then l2 ++ b :: r else spL l2 ++ b :: r)) := by
  unfold midL at ha
  by_cases hc : nm = [44]
  ·subst hc
   rw [if_pos rfl] at ha
   refine ⟨pL 44, rfl, ⟨rfl, .inr (.inr (.inl rfl)), fun _ => by show ¬ _; decide, fun _ => ?_, fun e => by cases e⟩, .inr (.inr ⟨rfl, rfl⟩), by simpa using ha⟩
   show (0 < (o.inf [44]).1 → rx < (o.inf [44]).1) ∧ (0 < (o.post [44]).1 → rx < (o.post [44]).1)
   exact ⟨fun _ => hb, fun e => by omega⟩
  ·rw [if_neg hc] at ha ⊢
   obtain ⟨y, hy, hyk, hys, -⟩ := nm_one (nm_op H (.inr (.inl hn)))
   rw [hy] at ha
   refine ⟨{ y with sp := true }, hys, ⟨rfl, by rcases hyk with e | e <;> simp [e], fun e => by have e : y.kind = 6 := e; omega, fun _ => ?_, fun e => by cases e⟩, by rcases hyk with e | e <;> simp [e], by simpa [spL] using ha⟩
   show (0 < (o.inf y.s).1 → rx < (o.inf y.s).1) ∧ (0 < (o.post y.s).1 → rx < (o.post y.s).1)
   rw [hys]
   exact ⟨fun _ => hb, fun e => by omega⟩
 rw [h s seen _ _ hv hs e2 (by omega) hR]
 have ha2 := at_app _ _ _ e2
 obtain ⟨h1, -, h3, -, -⟩ := at_head ha2
 have hs1 : SeenIs (s.put l.length (nrT seen x) px) (nrT seen x).2 := ⟨rfl, rfl, rfl, fit_nrT x seen hw hs.fit⟩
 have e3 : operatorF o ts (s.put l.length (nrT seen x) px) = some (((s.put l.length (nrT seen x) px).go 1).await ⟨6, 0, nm, (o.inf nm).1, [(nrT seen x).1]⟩ (o.inf nm).2.2) := by
  unfold operatorF
  simp only
  rw [show (s.put l.length (nrT seen x) px).at' = s.at' + l.length from rfl, h1, h3, hcs, at_mark ha2, if_neg, if_pos ⟨hn, hm, hp⟩]
  ·rfl
  ·rintro ⟨q1, q2, q3⟩
   rcases hk with e | e | ⟨e, e'⟩
   ·exact q1 e
   ·exact q2 e
   ·rw [hcs, decide_eq_true e, decide_eq_true e'] at q3
    cases q3
 rw [lx_round_op rfl e3]
 have ha3 : AtL ts (s.at' + l.length + 1) (l2 ++ b :: r) := by
  have q := at_next ha2
  by_cases hc : nm = [44]
  ·rwa [if_pos hc] at q
  ·rw [if_neg hc] at q
   exact at_unsp hne q
 rw [h2 _ (nrT seen x).2 b r rfl (hs1.await 1 _ _) ha3 hpy (hr.less hby hay)]
 have ha4 : AtL ts (s.at' + l.length + 1 + l2.length) (b :: r) := at_app _ _ _ ha3
 have hno := hr.noOp (s := (((s.put l.length (nrT seen x) px).go 1).await ⟨6, 0, nm, (o.inf nm).1, [(nrT seen x).1]⟩ (o.inf nm).2.2).put l2.length (nrT (nrT seen x).2 y) py) ha4 (Int.le_refl _)
 refine lx_round_back rfl hno rfl ?_
 unfold backF backG
 rw [if_neg (show ¬ (6 : Int) = 0 by decide), if_neg (show ¬ (6 : Int) = 1 by decide), if_neg (show ¬ (6 : Int) = 5 by decide), if_pos rfl]
 congr 1
 rw [nrT_comp, nrTs, nrTs, nrTs]
 refine RdS.eq ?_ rfl rfl rfl rfl rfl rfl rfl rfl
 show s.at' + l.length + 1 + l2.length = s.at' + (l ++ midL nm l2).length
 unfold midL
 by_cases hc : nm = [44]
 ·rw [if_pos hc]
  simp only [List.length_append, List.length_cons]
  omega
 ·rw [if_neg hc]
  obtain ⟨y, hy, -⟩ := nm_one (nm_op H (.inr (.inl hn)))
  rw [hy]
  cases l2 with
  | nil => exact absurd rfl hne
  | cons z w =>
   simp only [spL, List.length_append, List.length_cons, List.length_nil]
   omega
end
section
variable {o : OpsF} {es : List (OpK × OpV)} {way : Int}
def rightOf (o : OpsF) (p : OpR) : Int := if p.side = 1 then (o.pre p.name).2 else if p.side = 2 then (o.inf p.name).2.2 else 0
def prW (es : List (OpK × OpV)) (way : Int) (t : Tm) (m : Int) : Int := match operF es way t with
 | some p => if m < p.pri then 0 else p.pri
 | none => 0
def rbW (o : OpsF) (es : List (OpK × OpV)) (way : Int) (t : Tm) (m : Int) : Int := match operF es way t with
 | some p => if m < p.pri then 0 else rightOf o p
 | none => 0
structure OperIs (o : OpsF) (p : OpR) : Prop where
 one : p.side = 1 → p.pri = (o.pre p.name).1
 two : p.side = 2 → p.pri = (o.inf p.name).1 ∧ p.left = decide ((o.inf p.name).2.1 = (o.inf p.name).1) ∧ p.right = decide ((o.inf p.name).2.2 = (o.inf p.name).1)
 three : p.side = 3 → p.pri = (o.post p.name).1
 pos : 0 < p.pri
 side : p.side = 1 ∨ p.side = 2 ∨ p.side = 3
theorem oper_is (hes : way ≠ 2 → o = opsOf es) {t : Tm} {p : OpR} (h : operF es way t = some p) : OperIs o p := by
 unfold operF at h
 split at h
 ·cases h
 ·rename_i hn
  have hw : way ≠ 2 := fun e => hn (.inl e)
  rw [hes hw]
  split at h
  ·split at h
   ·injection h with h
    subst h
    exact ⟨fun _ => rfl, fun e => absurd e (by show ¬ (1 : Int) = 2; decide), fun e => absurd e (by show ¬ (1 : Int) = 3; decide), by assumption, .inl rfl⟩
   ·split at h
    ·injection h with h
     subst h
     exact ⟨fun e => absurd e (by show ¬ (3 : Int) = 1; decide), fun e => absurd e (by show ¬ (3 : Int) = 2; decide), fun _ => rfl, by assumption, .inr (.inr rfl)⟩
    ·cases h
  ·split at h
   ·split at h
    ·injection h with h
     subst h
     exact ⟨fun e => absurd e (by show ¬ (2 : Int) = 1; decide), fun _ => ⟨rfl, rfl, rfl⟩, fun e => absurd e (by show ¬ (2 : Int) = 3; decide), by assumption, .inr (.inl rfl)⟩
    ·cases h
   ·cases h
theorem oper_way {t : Tm} {p : OpR} (h : operF es way t = some p) : way ≠ 2 := by
 rintro rfl
 unfold operF at h
 rw [if_pos (.inl rfl)] at h
 cases h
theorem OperIs.right (H : TabOk o) {p : OpR} (h : OperIs o p) : 0 ≤ rightOf o p ∧ rightOf o p ≤ p.pri ∧ p.pri ≤ 1200 := by
 have hp := h.pos
 unfold rightOf
 rcases h.side with hs | hs | hs
 ·rw [if_pos hs]
  have := h.one hs
  have := H.pre p.name
  omega
 ·have n1 : ¬ p.side = 1 := by omega
  rw [if_neg n1, if_pos hs]
  have := (h.two hs).1
  have := H.inf p.name
  omega
 ·have n1 : ¬ p.side = 1 := by omega
  have n2 : ¬ p.side = 2 := by omega
  rw [if_neg n1, if_neg n2]
  have := h.three hs
  have := H.post p.name
  omega
theorem pr_le (H : TabOk o) (hes : way ≠ 2 → o = opsOf es) (t : Tm) (m : Int) (hm : 0 ≤ m ∧ m ≤ 1200) : 0 ≤ prW es way t m ∧ prW es way t m ≤ m ∧ rbW o es way t m ≤ prW es way t m := by
 unfold prW rbW
 cases h : operF es way t with
 | none => exact ⟨Int.le_refl _, hm.1, Int.le_refl _⟩
 | some p =>
  simp only
  have h1 := oper_is hes h
  have h2 := h1.right H
  have h3 := h1.pos
  split
  ·exact ⟨Int.le_refl _, hm.1, Int.le_refl _⟩
  ·exact ⟨by omega, by omega, h2.2.1⟩
theorem notOp {n : List UInt8} (h : isOp es n = false) : ((opsOf es).pre n).1 = 0 ∧ ((opsOf es).inf n).1 = 0 ∧ ((opsOf es).post n).1 = 0 := by
 unfold isOp at h
 simp only [Bool.or_eq_false_iff, Option.isSome_eq_false_iff, Option.isNone_iff_eq_none] at h
 obtain ⟨h1, h2, h3⟩ := h
 refine ⟨?_, ?_, ?_⟩
 ·show (tsides es 1 n).1 = 0
  unfold tsides
  rw [h1]
 ·show (tsides es 2 n).1 = 0
  unfold tsides
  rw [h2]
 ·show (tsides es 3 n).1 = 0
  unfold tsides
  rw [h3]
theorem not_within {t : Tm} {q : OpR} {same : Bool} (h : withinF es way t q same = false) :
    (t.k = 3 → isOp es t.s = false) ∧ (t.k = 2 → ¬ t.n < 0) ∧ (∀ p, operF es way t = some p → p.pri < q.pri ∨ (same = true ∧ p.side = 2 ∧ p.name = q.name)) := by
 unfold withinF at h
 refine ⟨fun hk => ?_, fun hk => ?_, fun p hp => ?_⟩
 ·rwa [if_pos hk] at h
 ·rw [if_neg (by omega), if_pos hk] at h
  simpa using h
 ·obtain ⟨-, hk, -⟩ := oper_name hp
  rw [if_neg (by omega), if_neg (by omega), if_pos hk, hp] at h
  simp only [Bool.and_eq_false_iff, decide_eq_false_iff_not, Bool.not_eq_false', Bool.and_eq_true, decide_eq_true_eq] at h
  rcases h with h | ⟨h1, h2, h3⟩
  ·left
   omega
  ·exact .inr ⟨h1, h2, h3⟩
end
end Go.Proofs.YtcallkljcjimiaaGreatDoor
namespace Go.Proofs.YtcallkljcjimiaaGreatDoor
section
variable {o : OpsF} {es : List (OpK × OpV)} {way : Int}
def Opens (l : List Lxm) : Prop := ∃ x y, l = x :: y ∧ (x.kind = 6 → x.s = [40] ∨ x.s = [91] ∨ x.s = [123])
theorem Opens.app {l : List Lxm} (h : Opens l) (r : List Lxm) : Opens (l ++ r) := by
 obtain ⟨x, y, rfl, hx⟩ := h
 exact ⟨x, y ++ r, rfl, hx⟩
theorem Opens.ne {l : List Lxm} (h : Opens l) : l ≠ [] := by
 obtain ⟨x, y, rfl, -⟩ := h
 simp
theorem Opens.off {l : List Lxm} (h : Opens l) {c : UInt8} (hc : c = 93 ∨ c = 125) : ∃ x y, l = x :: y ∧ (x.kind = 6 → x.s ≠ [c]) := by
 obtain ⟨x, y, rfl, hx⟩ := h
 refine ⟨x, y, rfl, fun hk e => ?_⟩
 rcases hx hk with h | h | h <;> (rw [h] at e; rcases hc with rfl | rfl <;> exact absurd e (by decide))
theorem opens_p {c : UInt8} (hc : c = 40 ∨ c = 91 ∨ c = 123) (r : List Lxm) : Opens (pL c :: r) :=
 ⟨_, _, rfl, fun _ => by rcases hc with rfl | rfl | rfl <;> simp [pL]⟩
theorem opens_nm (s : List UInt8) : Opens (nmL s) := by
 by_cases h : s = [91, 93] ∨ s = [123, 125]
 ·rcases h with rfl | rfl
  ·exact opens_p (.inr (.inl rfl)) _
  ·exact opens_p (.inr (.inr rfl)) _
 ·obtain ⟨x, hx, hk, -⟩ := nm_one h
  exact ⟨x, [], hx, fun e => by omega⟩
theorem opens_int (n : Int) : Opens (inL n) := by
 unfold inL
 split
 ·exact ⟨_, _, rfl, fun e => absurd e (by show ¬ (1 : Int) = 6; decide)⟩
 ·exact ⟨_, _, rfl, fun e => absurd e (by show ¬ (3 : Int) = 6; decide)⟩
theorem opens_comma (g : Tm → Int → List Lxm) : ∀ (l : List Tm), l ≠ [] → (∀ t ∈ l, Opens (g t 999)) → Opens (commaL g l)
 | [], h, _ => absurd rfl h
 | [t], _, h => h t (by simp)
 | t :: _ :: _, _, h => (h t (by simp)).app _
theorem opens_opd (g : Tm → Int → List Lxm) (t : Tm) (p : OpR) (same : Bool) (h : Opens (g t 1200)) : Opens (opdL es way g t p same) := by
 unfold opdL
 split
 ·exact opens_p (.inl rfl) _
 ·exact h
theorem opens_lx : ∀ (f : Nat) (t : Tm) (m : Int), t.size ≤ f → WfT t → Opens (lxF es way f t m)
 | 0, t, _, h, _ => by have := size_pos t; omega
 | f + 1, t, m, h, hw => by
  unfold lxF lxStep
  by_cases h1 : t.k = 1
  ·rw [if_pos h1]
   exact ⟨_, _, rfl, fun e => absurd e (by show ¬ (4 : Int) = 6; decide)⟩
  by_cases h2 : t.k = 2
  ·rw [if_neg h1, if_pos h2]
   exact opens_int _
  by_cases h3 : t.k = 3
  ·rw [if_neg h1, if_neg h2, if_pos h3]
   exact opens_nm _
  rw [if_neg h1, if_neg h2, if_neg h3]
  unfold cmpL
  split
  ·exact opens_p (.inr (.inl rfl)) _
  ·split
   ·exact opens_p (.inr (.inr rfl)) _
   ·split
    ·exact (opens_nm _).app _
    ·rename_i p hp
     obtain ⟨_, _, h7⟩ := oper_name hp
     split
     ·exact opens_p (.inl rfl) _
     ·have h0 : 0 < t.args.length := by omega
      have ih := opens_opd (es := es) (way := way) (lxF es way f) (t.args.getD 0 noTm) p
      have ih0 := opens_lx f (t.args.getD 0 noTm) 1200 (by have := arg_size h0; omega) (hw.arg h0)
      unfold opeL
      split
      ·exact (opens_nm _).app _
      ·split
       ·exact (ih _ ih0).app _
       ·exact (ih _ ih0).app _
def Begins (o : OpsF) (l : List Lxm) : Prop := ∀ (ts : List Tok) (i : Nat) (r : List Lxm), AtL ts i (l ++ r) → beginsF o (peekF ts i) = true
theorem Begins.app {l : List Lxm} (h : Begins o l) (y : List Lxm) : Begins o (l ++ y) := fun ts i r ha => h ts i (y ++ r) (by rwa [List.append_assoc] at ha)
theorem lx_begins_p {c : UInt8} (hc : c = 40 ∨ c = 91 ∨ c = 123) (y : List Lxm) : Begins o (pL c :: y) := fun ts i r ha => by
 obtain ⟨h1, -, h3, -⟩ := at_head (a := pL c) (r := y ++ r) ha
 unfold beginsF
 rw [h1, h3, if_neg (by show ¬ ((6 : Int) = 3 ∨ (6 : Int) = 4 ∨ (6 : Int) = 5); decide), if_pos (by rfl)]
 rcases hc with rfl | rfl | rfl <;> decide
theorem begins_num {a : Lxm} (ha : a.kind = 3 ∨ a.kind = 4) (y : List Lxm) : Begins o (a :: y) := fun ts i r h => by
 obtain ⟨h1, -⟩ := at_head (a := a) (r := y ++ r) h
 unfold beginsF
 rw [h1, if_pos (by omega)]
theorem begins_nm {s : List UInt8} (y : List Lxm) (h : opnL y = true ∧ y ≠ [] ∨ ((o.inf s).1 = 0 ∧ (o.post s).1 = 0) ∨ 0 < (o.pre s).1) : Begins o (nmL s ++ y) := by
 by_cases hs : s = [91, 93] ∨ s = [123, 125]
 ·rcases hs with rfl | rfl
  ·exact lx_begins_p (.inr (.inl rfl)) _
  ·exact lx_begins_p (.inr (.inr rfl)) _
 ·obtain ⟨x, hx, hk, hxs, -⟩ := nm_one hs
  rw [hx]
  intro ts i r ha
  obtain ⟨h1, -, h3, h4, -⟩ := at_head (a := x) (r := y ++ r) ha
  unfold beginsF
  rw [h1, h3, h4, hxs, if_neg (by omega), if_neg (by omega), if_pos hk]
  rcases h with ⟨h, hy⟩ | h
  ·have : opnL (y ++ r) = true := by
    cases y with
    | nil => exact absurd rfl hy
    | cons a b => exact h
   rw [if_pos this]
  ·split
   ·rfl
   ·exact decide_eq_true h
theorem begins_lx (hes : way ≠ 2 → o = opsOf es) (hway : way ≠ 2 ∨ way = 2) : ∀ (f : Nat) (t : Tm) (m : Int), t.size ≤ f → WfT t → (t.k = 3 → (o.inf t.s).1 = 0 ∧ (o.post t.s).1 = 0) → (t.k = 2 → ¬ t.n < 0) → Begins o (lxF es way f t m)
 | 0, t, _, h, _, _, _ => by have := size_pos t; omega
 | f + 1, t, m, h, hw, hat, hng => by
  unfold lxF lxStep
  by_cases h1 : t.k = 1
  ·rw [if_pos h1]
   exact begins_num (.inr rfl) _
  by_cases h2 : t.k = 2
  ·rw [if_neg h1, if_pos h2]
   unfold inL
   rw [if_neg (hng h2)]
   exact begins_num (.inl rfl) _
  by_cases h3 : t.k = 3
  ·rw [if_neg h1, if_neg h2, if_pos h3]
   have := begins_nm (o := o) (s := t.s) [] (.inr (.inl (hat h3)))
   rwa [List.append_nil] at this
  rw [if_neg h1, if_neg h2, if_neg h3]
  unfold cmpL
  split
  ·exact lx_begins_p (.inr (.inl rfl)) _
  ·split
   ·exact lx_begins_p (.inr (.inr rfl)) _
   ·split
    ·exact begins_nm _ (.inl ⟨rfl, by simp⟩)
    ·rename_i p hp
     obtain ⟨hnm, _, h7⟩ := oper_name hp
     have hop := oper_is hes hp
     have hw2 := oper_way hp
     split
     ·exact lx_begins_p (.inl rfl) _
     ·have h0 : 0 < t.args.length := by omega
      have ih : ∀ same, Begins o (opdL es way (lxF es way f) (t.args.getD 0 noTm) p same) := fun same => by
       unfold opdL
       cases hwi : withinF es way (t.args.getD 0 noTm) p same with
       | true => exact lx_begins_p (.inl rfl) _
       | false =>
        obtain ⟨q1, q2, -⟩ := not_within hwi
        refine begins_lx hes hway f _ 1200 (by have := arg_size h0; omega) (hw.arg h0) (fun hk => ?_) q2
        rw [hes hw2]
        exact (notOp (q1 hk)).2
      unfold opeL
      by_cases s1 : p.side = 1
      ·rw [if_pos s1]
       refine begins_nm _ (.inr (.inr ?_))
       have := hop.one s1
       have := hop.pos
       omega
      ·rw [if_neg s1]
       split
       ·exact (ih _).app _
       ·exact (ih _).app _
theorem consF_list : ∀ (f : Nat) (t : Tm), WfT t → listT (consF f t).1 (consF f t).2 = t
 | 0, t, _ => rfl
 | f + 1, t, hw => by
  unfold consF
  by_cases hc : consT t = true
  ·rw [if_pos hc]
   obtain ⟨h4, h5, h6⟩ := consT_len hc
   have ih := consF_list f (t.args.getD 1 noTm) (hw.arg (by omega))
   show compT [46] [t.args.getD 0 noTm, listT (consF f (t.args.getD 1 noTm)).1 (consF f (t.args.getD 1 noTm)).2] = t
   rw [ih]
   have ht := wf_comp hw h4
   rw [h5] at ht
   have hl : [t.args.getD 0 noTm, t.args.getD 1 noTm] = t.args := by
    obtain ⟨k, n, s, l⟩ := t
    match l, h6 with
    | [a, b], _ => rfl
   rw [hl]
   exact ht.symm
  ·rw [if_neg hc]
   rfl
theorem one_arg {l : List Tm} (h : l.length = 1) : [l.getD 0 noTm] = l := by
 match l, h with
 | [a], _ => rfl
theorem two_args {l : List Tm} (h : l.length = 2) : [l.getD 0 noTm, l.getD 1 noTm] = l := by
 match l, h with
 | [a, b], _ => rfl
theorem reads_lx (H : TabOk o) (hes : way ≠ 2 → o = opsOf es) (ts : List Tok) : ∀ (f : Nat) (t : Tm) (m : Int) (a : Bool), t.size ≤ f → WfT t → 0 ≤ m ∧ m ≤ 1200 → (t.k = 3 → 0 < (o.pre t.s).1 → a = true) →
    Reads o ts (lxF es way f t m) t (prW es way t m) (rbW o es way t m) a
 | 0, t, _, _, h, _, _, _ => by have := size_pos t; omega
 | f + 1, t, m, a, h, hw, hm, hat => by
  have hnone : ∀ hk : t.k ≠ 4, prW es way t m = 0 ∧ rbW o es way t m = 0 := fun hk => by
   have e : operF es way t = none := by unfold operF; rw [if_pos (.inr (.inl hk))]
   unfold prW rbW
   rw [e]
   exact ⟨rfl, rfl⟩
  have ih : ∀ (x : Tm) (m : Int) (a : Bool), x.size < t.size → WfT x → 0 ≤ m ∧ m ≤ 1200 → (x.k = 3 → 0 < (o.pre x.s).1 → a = true) → Reads o ts (lxF es way f x m) x (prW es way x m) (rbW o es way x m) a := fun x m a hx hwx hm ha => reads_lx H hes ts f x m a (by omega) hwx hm ha
  have hop : ∀ x : Tm, x.size < t.size → WfT x → ∀ m, Opens (lxF es way f x m) := fun x hx hwx m => opens_lx f x m (by omega) hwx
  have hpart : ∀ x : Tm, x.size < t.size → WfT x → WfT x ∧ ∃ pr rb a, Reads o ts (lxF es way f x 999) x pr rb a ∧ pr ≤ 999 ∧ rb ≤ 999 := fun x hx hwx => by
   have h1 := pr_le H hes x 999 (by decide)
   exact ⟨hwx, _, _, true, ih x 999 true hx hwx (by decide) (fun _ _ => rfl), by omega, by omega⟩
  unfold lxF lxStep
  by_cases h1 : t.k = 1
  ·rw [if_pos h1, (hnone (by omega)).1, (hnone (by omega)).2]
   exact reads_var hw h1 _ _
  by_cases h2 : t.k = 2
  ·rw [if_neg h1, if_pos h2, (hnone (by omega)).1, (hnone (by omega)).2]
   exact reads_int hw h2 _ _
  by_cases h3 : t.k = 3
  ·rw [if_neg h1, if_neg h2, if_pos h3, (hnone (by omega)).1, (hnone (by omega)).2]
   exact reads_atom hw h3 _ _ (hat h3)
  rw [if_neg h1, if_neg h2, if_neg h3]
  have h4 : t.k = 4 := by rcases hw.kind with h | h | h | h <;> first | exact h | contradiction
  have hmem : ∀ x ∈ t.args, x.size < t.size ∧ WfT x := fun x hx => ⟨by have h1 := mem_sizes t.args x hx; have h2 := size_args t; omega, hw.mem hx⟩
  have ht := wf_comp hw h4
  unfold cmpL
  by_cases hc : consT t = true
  ·rw [if_pos hc]
   have e : operF es way t = none := by unfold operF; rw [if_pos (.inr (.inr hc))]
   have e1 : prW es way t m = 0 ∧ rbW o es way t m = 0 := by unfold prW rbW; rw [e]; exact ⟨rfl, rfl⟩
   rw [e1.1, e1.2]
   obtain ⟨i1, _, i3⟩ := consF_size t.size t
   obtain ⟨w1, w2⟩ := consF_wf t.size t hw
   have i3 := i3 hc (size_pos t)
   have hne : (consF t.size t).1 ≠ [] := by
    have := consF_pos hc (size_pos t)
    intro e
    rw [e] at this
    exact absurd this (by decide)
   have hl := consF_list t.size t hw
   have hR := reads_list H (ts := ts) (lxF es way f) (consF t.size t).1 (consF t.size t).2 hne (fun x hx => hpart x (i1 x hx) (w1 x hx)) ((opens_comma _ _ hne fun x hx => hop x (i1 x hx) (w1 x hx) 999).off (.inl rfl)) (tailL (lxF es way f) (consF t.size t).2) (by
    unfold tailL
    split
    ·rename_i hn
     left
     refine ⟨rfl, ?_⟩
     have := wf_atom w2 hn.1
     rw [this, hn.2]
     rfl
    ·right
     have h1 := hpart _ i3 w2
     exact ⟨_, rfl, h1.2⟩) 0 a
   rw [hl] at hR
   exact hR
  rw [if_neg hc]
  by_cases hb : way ≠ 2 ∧ t.s = [123, 125] ∧ t.args.length = 1
  ·rw [if_pos hb]
   have h0 : 0 < t.args.length := by omega
   have hx := arg_size h0
   have hwx := hw.arg h0
   have e : operF es way t = none := by
    have hn := H.nil [123, 125] (.inr rfl)
    rw [hes hb.1] at hn
    unfold operF
    rw [if_neg (by rintro (e | e | e); exact hb.1 e; exact e h4; exact hc e), if_pos hb.2.2, hb.2.1]
    rw [if_neg (by have : (tsides es 1 [123, 125]).1 = 0 := hn.1; omega), if_neg (by have : (tsides es 3 [123, 125]).1 = 0 := hn.2.2; omega)]
   have e1 : prW es way t m = 0 ∧ rbW o es way t m = 0 := by unfold prW rbW; rw [e]; exact ⟨rfl, rfl⟩
   rw [e1.1, e1.2]
   have hp := pr_le H hes (t.args.getD 0 noTm) 1200 (by decide)
   have hR := reads_brace H (ih _ 1200 true hx hwx (by decide) (fun _ _ => rfl)) (by omega) (by omega) ((hop _ hx hwx 1200).off (.inr rfl)) 0 a
   rw [one_arg hb.2.2, ← hb.2.1, ← ht] at hR
   exact hR
  rw [if_neg hb]
  cases ho : operF es way t with
  | none =>
   have e1 : prW es way t m = 0 ∧ rbW o es way t m = 0 := by unfold prW rbW; rw [ho]; exact ⟨rfl, rfl⟩
   rw [e1.1, e1.2]
   have hR := reads_func H (ts := ts) (lxF es way f) t.s t.args (args_ne hw h4) (fun x hx => hpart x (hmem x hx).1 (hmem x hx).2) 0 a
   rw [← ht] at hR
   exact hR
  | some p =>
   obtain ⟨hnm, _, h7⟩ := oper_name ho
   have hp := oper_is hes ho
   have hw2 := oper_way ho
   have hpr := hp.right H
   have hpos := hp.pos
   -- an operand
   have hopd : ∀ (i : Nat) (same : Bool), i < t.args.length → Opens (opdL es way (lxF es way f) (t.args.getD i noTm) p same) ∧ Begins o (opdL es way (lxF es way f) (t.args.getD i noTm) p same) ∧
       ∃ px rx, Reads o ts (opdL es way (lxF es way f) (t.args.getD i noTm) p same) (t.args.getD i noTm) px rx false ∧ 0 ≤ px ∧ rx ≤ px ∧ (px < p.pri ∨ (same = true ∧ p.side = 2 ∧ px = p.pri ∧ rx = (o.inf p.name).2.2) ∨ (same = true ∧ p.side ≠ 2)) := fun i same hi => by
    have hx := arg_size hi
    have hwx := hw.arg hi
    have hpx := pr_le H hes (t.args.getD i noTm) 1200 (by decide)
    refine ⟨opens_opd _ _ _ _ (hop _ hx hwx 1200), ?_⟩
    unfold opdL
    cases hwi : withinF es way (t.args.getD i noTm) p same with
    | true =>
     refine ⟨lx_begins_p (.inl rfl) _, 0, 0, ?_, Int.le_refl _, Int.le_refl _, .inl hpos⟩
     exact reads_paren H (ih _ 1200 true hx hwx (by decide) (fun _ _ => rfl)) (by omega) (by omega) 0 false
    | false =>
     obtain ⟨q1, q2, q3⟩ := not_within hwi
     have hat3 : (t.args.getD i noTm).k = 3 → (o.pre (t.args.getD i noTm).s).1 = 0 ∧ (o.inf (t.args.getD i noTm).s).1 = 0 ∧ (o.post (t.args.getD i noTm).s).1 = 0 := fun hk => by
      rw [hes hw2]
      exact notOp (q1 hk)
     refine ⟨begins_lx hes (.inl hw2) f _ 1200 (by omega) hwx (fun hk => (hat3 hk).2) q2, _, _, ih _ 1200 false hx hwx (by decide) (fun hk hpo => by have := (hat3 hk).1; omega), hpx.1, hpx.2.2, ?_⟩
     unfold prW rbW
     cases hq : operF es way (t.args.getD i noTm) with
     | none => exact .inl hpos
     | some q =>
      simp only
      have hqr := (oper_is hes hq).right H
      rw [if_neg (by omega), if_neg (by omega)]
      rcases q3 q hq with h5 | ⟨h5, h6, h7⟩
      ·exact .inl h5
      ·have hq2 := ((oper_is hes hq).two h6).1
       by_cases hps : p.side = 2
       ·refine .inr (.inl ⟨h5, hps, ?_, ?_⟩)
        ·rw [hq2, h7, (hp.two hps).1]
        ·unfold rightOf
         rw [if_neg (by omega), if_pos h6, h7]
       ·exact .inr (.inr ⟨h5, hps⟩)
   have hin : Reads o ts (opeL es way (lxF es way f) p t.args) t p.pri (rightOf o p) a := by
    rcases h7 with ⟨hs | hs, hl⟩ | ⟨hs, hl⟩
    ·obtain ⟨o1, o2, px, rx, o3, o4, o5, o6⟩ := hopd 0 false (by omega)
     have hp1 := hp.one hs
     have hpt := H.pre p.name
     have o6 : px < p.pri := by rcases o6 with h | ⟨h, -⟩ | ⟨h, -⟩ <;> first | exact h | cases h
     have hR := reads_pre H (nm := p.name) (by omega) o1.ne o3 (by omega) (by omega) (a := a) (fun e => by cases e) (fun i r ha => o2 ts i r ha)
     unfold opeL rightOf
     rw [if_pos hs, if_pos hs, hp1]
     rw [one_arg hl, hnm, ← ht] at hR
     rw [hnm]
     exact hR
    ·obtain ⟨o1, o2, px, rx, o3, o4, o5, o6⟩ := hopd 0 false (by omega)
     have hp1 := hp.three hs
     have hpt := H.post p.name
     have o6 : px < p.pri := by rcases o6 with h | ⟨h, -⟩ | ⟨h, -⟩ <;> first | exact h | cases h
     have hR := reads_post H (nm := p.name) (by omega) o3 (by omega) (by omega) a
     have n1 : ¬ p.side = 1 := by omega
     have n2 : ¬ p.side = 2 := by omega
     unfold opeL rightOf
     rw [if_neg n1, if_pos hs, if_neg n1, if_neg n2, hp1]
     rw [one_arg hl, hnm, ← ht] at hR
     rw [hnm]
     exact hR
    ·obtain ⟨o1, o2, px, rx, o3, o4, o5, o6⟩ := hopd 0 p.left (by omega)
     obtain ⟨y1, y2, py, ry, y3, y4, y5, y6⟩ := hopd 1 p.right (by omega)
     obtain ⟨hp1, hpl, hpr2⟩ := hp.two hs
     have hpt := H.inf p.name
     have hx : px ≤ (o.inf p.name).2.1 ∧ rx < (o.inf p.name).1 := by
      rcases o6 with h | ⟨h, -, h8, h9⟩ | ⟨-, h⟩
      ·omega
      ·rw [hpl] at h
       have := of_decide_eq_true h
       omega
      ·exact absurd hs h
     have hy : py ≤ (o.inf p.name).2.2 ∧ ry ≤ (o.inf p.name).2.2 := by
      rcases y6 with h | ⟨h, -, h8, h9⟩ | ⟨-, h⟩
      ·omega
      ·rw [hpr2] at h
       have := of_decide_eq_true h
       omega
      ·exact absurd hs h
     have hR := reads_inf H (nm := p.name) (by omega) (hw.arg (by omega)) o3 hx.1 hx.2 y1.ne y3 hy.1 hy.2 (a := a) (fun e => by cases e)
     have n1 : ¬ p.side = 1 := by omega
     have n3 : ¬ p.side = 3 := by omega
     unfold opeL rightOf
     rw [if_neg n1, if_neg n3, if_neg n1, if_pos hs, hp1]
     unfold midL at hR
     rw [two_args hl, hnm, ← ht] at hR
     rw [hnm]
     exact hR
   simp only
   unfold prW rbW
   rw [ho]
   simp only
   by_cases hmp : m < p.pri
   ·rw [if_pos hmp, if_pos hmp, if_pos hmp]
    exact reads_paren H hin (by omega) (by omega) 0 a
   ·rw [if_neg hmp, if_neg hmp, if_neg hmp]
    exact hin
end
end Go.Proofs.YtcallkljcjimiaaGreatDoor
namespace Go.Proofs.YtcallkljcjimiaaGreatDoor
mutual
theorem nrT_size : ∀ (t : Tm) (seen : List Int), WfT t → (nrT seen t).1.size = t.size ∧ (nrT seen t).1.deep = t.deep ∧ (nrT seen t).1.may = true
 | .mk k n s l, seen, h => by
  rw [nrT]
  by_cases hk : k = 1
  ·rw [if_pos hk]
   have hv := wf_var h hk
   have hl : l = [] := by
    have := congrArg Tm.args hv
    exact this
   subst hl
   cases posF seen n with
   | some i =>
    refine ⟨rfl, rfl, ?_⟩
    unfold varT
    rw [Tm.may, Tm.mays]
    unfold mayP
    rw [if_pos rfl]
    simp
   | none =>
    refine ⟨rfl, rfl, ?_⟩
    unfold varT
    rw [Tm.may, Tm.mays]
    unfold mayP
    rw [if_pos rfl]
    simp
  ·rw [if_neg hk]
   obtain ⟨h1, h2, h3, h4⟩ := nrTs_size l seen fun x hx => h.mem hx
   have hm := h.may
   rw [Tm.may, Bool.and_eq_true] at hm
   simp only
   rw [Tm.size, Tm.size, Tm.deep, Tm.deep, Tm.may, h1, h2, h3, h4, hm.1]
   exact ⟨rfl, rfl, rfl⟩
theorem nrTs_size : ∀ (l : List Tm) (seen : List Int), (∀ x ∈ l, WfT x) → Tm.sizes (nrTs seen l).1 = Tm.sizes l ∧ Tm.deeps (nrTs seen l).1 = Tm.deeps l ∧ Tm.mays (nrTs seen l).1 = true ∧ (nrTs seen l).1.length = l.length
 | [], seen, _ => by rw [nrTs]; exact ⟨rfl, rfl, rfl, rfl⟩
 | t :: r, seen, h => by
  obtain ⟨h1, h2, h3⟩ := nrT_size t seen (h t (List.mem_cons_self ..))
  obtain ⟨g1, g2, g3, g4⟩ := nrTs_size r (nrT seen t).2 fun x hx => h x (List.mem_cons_of_mem _ hx)
  rw [nrTs]
  simp only
  rw [Tm.sizes, Tm.sizes, Tm.deeps, Tm.deeps, Tm.mays, h1, h2, h3, g1, g2, g3, List.length_cons, List.length_cons, g4]
  exact ⟨rfl, rfl, rfl, rfl⟩
end
section
variable {o : OpsF} {es : List (OpK × OpV)} {way : Int}
theorem lex_written (hway : way ≠ 0) (t : Tm) (m : Int) (hw : WfT t) : lexB (wrT es way t m ++ [32, 46]) = (tkL true (lxF es way t.size t m ++ [stopL]) ++ [endTok 1], 0, 0) := by
 have h := lx_ok es way hway t.size t m (Nat.le_refl _) hw
 have hs : flat [stopL] = [32, 46] := rfl
 have hok := h.ok [stopL] ⟨32, [46], rfl, soft_of (.inl rfl)⟩ ⟨stop_good, trivial⟩
 have := lexB_flat _ hok
 rw [flat_app, h.flat, hs] at this
 exact this
theorem rest_stop (o : OpsF) (rb : Int) (a : Bool) : RestOk o stopL rb a :=
 ⟨rfl, .inr (.inr (.inr rfl)), fun e => absurd e (by show ¬ (7 : Int) = 6; decide), fun e => by
  rcases e with e | e | e
  ·exact absurd e (by show ¬ (7 : Int) = 1; decide)
  ·exact absurd e (by show ¬ (7 : Int) = 2; decide)
  ·exact absurd e (by show ¬ ([] : List UInt8) = [44]; decide), fun _ => .inr rfl⟩
theorem read_written (H : TabOk o) (hes : way ≠ 2 → o = opsOf es) (t : Tm) (hw : WfT t) (hd : t.deep ≤ 2000) (hs : t.size ≤ 20000) :
    readF o (tkL true (lxF es way t.size t 1200 ++ [stopL]) ++ [endTok 1]) 0 = (⟨(nrT [] t).1, varsOf 0 (nrT [] t).2, 1, ((lxF es way t.size t 1200).length : Int) + 1⟩, 0) := by
 obtain ⟨l, hl⟩ : ∃ l, l = lxF es way t.size t 1200 := ⟨_, rfl⟩
 obtain ⟨ts, hts⟩ : ∃ ts, ts = tkL true (l ++ [stopL]) ++ [endTok 1] := ⟨_, rfl⟩
 have hR := reads_lx (way := way) H hes ts t.size t 1200 true (Nat.le_refl _) hw (by decide) (fun _ _ => rfl)
 have hpr := pr_le H hes t 1200 (by decide)
 have hat : AtL ts 0 (l ++ [stopL]) := ⟨true, hts⟩
 rw [← hl] at hR ⊢
 rw [← hts]
 have e1 := hR (startF 0) [] stopL [] rfl ⟨rfl, rfl, rfl, fun n hn => by cases hn⟩ hat (by show prW es way t 1200 ≤ 1200; omega) (rest_stop o _ _)
 have ha2 := at_app l [stopL] 0 hat
 have hno := (rest_stop o 1200 true).noOp (s := (startF 0).put l.length (nrT [] t) (prW es way t 1200)) ha2 (Int.le_refl _)
 have hk : (peekF ts (0 + l.length)).kind = 7 := (at_head ha2).1
 have e2 : endF o ts ((startF 0).put l.length (nrT [] t) (prW es way t 1200)) = .fin ((startF 0).put l.length (nrT [] t) (prW es way t 1200)) := by
  refine fin_end ?_
  unfold roundF
  rw [if_neg (by show ¬ true = false; decide), hno]
  simp only
  rw [show ((startF 0).put l.length (nrT [] t) (prW es way t 1200)).wait = [] from rfl]
  simp only
  rw [if_neg (fun h => h hk)]
 have hend := e1.trans e2
 have hk0 : (peekF ts 0).kind ≠ 0 := fun e => by
  have hr : roundF o ts (startF 0) = .bad 0 := by
   unfold roundF
   rw [if_pos (show (startF 0).hv = false from rfl)]
   unfold primaryF
   simp only
   rw [show (startF 0).at' = 0 from rfl, e]
   rfl
  have h3 : endF o ts (startF 0) = .bad 0 := by rw [end_step, hr]
  rw [h3] at hend
  cases hend
 have hlen : 0 < ts.length := peek_lt hk0
 have hline : (peekF ts 0).line = 1 := by
  have : ∃ a r, l ++ [stopL] = a :: r := by
   cases l with
   | nil => exact ⟨_, _, rfl⟩
   | cons a r => exact ⟨_, _, rfl⟩
  obtain ⟨a, r, har⟩ := this
  rw [hts, har, tkL]
  rfl
 obtain ⟨n1, n2, n3⟩ := nrT_size t [] hw
 unfold readF
 rw [if_neg (by simp only [Int.toNat_zero]; rintro (h | h | h); exact absurd h (by decide); omega; exact hk0 h)]
 simp only [Int.toNat_zero]
 rw [show runF o ts (leftF ts (startF 0) + 1) (startF 0) = endF o ts (startF 0) from rfl, hend]
 simp only
 rw [show ((startF 0).put l.length (nrT [] t) (prW es way t 1200)).t = (nrT [] t).1 from rfl, if_neg (by rw [n3]; decide), if_neg (by rw [n2]; omega), if_neg (by rw [n1]; omega), hline]
 show (ClauseF.mk (nrT [] t).1 (varsOf 0 (nrT [] t).2) 1 (((0 + l.length : Nat) : Int) + 1), (0 : Int)) = _
 rw [Nat.zero_add]
end
end Go.Proofs.YtcallkljcjimiaaGreatDoor
namespace Go.Proofs.YtcallkljcjimiaaGreatDoor
open Go.RowKit
set_option maxRecDepth 100000
noncomputable def sameTm (t u : Tm) : Bool := @decide (t = u) (Classical.propDecidable _)
theorem sameTm_iff (t u : Tm) : sameTm t u = true ↔ t = u := by
 unfold sameTm
 exact @decide_eq_true_iff _ (Classical.propDecidable _)
theorem sameTm_self (t : Tm) : sameTm t t = true := (sameTm_iff t t).2 rfl
theorem sameTm_false {t u : Tm} (h : t ≠ u) : sameTm t u = false := by
 cases hb : sameTm t u with
 | false => rfl
 | true => exact absurd ((sameTm_iff t u).1 hb) h
theorem s10_drew {w : World} {p0 p1 p2 p3 p4 p5 p6 p7 p8 p9 : Addr} {x0 x1 x2 x3 x4 x5 x6 x7 x8 x9 : Option Value} (h : w.cell? p0 = x0 ∧ w.cell? p1 = x1 ∧ w.cell? p2 = x2 ∧ w.cell? p3 = x3 ∧ w.cell? p4 = x4 ∧ w.cell? p5 = x5 ∧ w.cell? p6 = x6 ∧ w.cell? p7 = x7 ∧ w.cell? p8 = x8 ∧ w.cell? p9 = x9) :
    w.drew.cell? p0 = x0 ∧ w.drew.cell? p1 = x1 ∧ w.drew.cell? p2 = x2 ∧ w.drew.cell? p3 = x3 ∧ w.drew.cell? p4 = x4 ∧ w.drew.cell? p5 = x5 ∧ w.drew.cell? p6 = x6 ∧ w.drew.cell? p7 = x7 ∧ w.drew.cell? p8 = x8 ∧ w.drew.cell? p9 = x9 := h
theorem cell_later {w w' : World} {p : Addr} {x : Value} (h : w.cell? p = some x) (hb : Below w.heap.size w w') : w'.cell? p = some x := (hb.cell (World.block_lt_of_cell? w _ h)).trans h
theorem s10_later {w w' : World} {p0 p1 p2 p3 p4 p5 p6 p7 p8 p9 : Addr} {x0 x1 x2 x3 x4 x5 x6 x7 x8 x9 : Value} (h : w.cell? p0 = some x0 ∧ w.cell? p1 = some x1 ∧ w.cell? p2 = some x2 ∧ w.cell? p3 = some x3 ∧ w.cell? p4 = some x4 ∧ w.cell? p5 = some x5 ∧ w.cell? p6 = some x6 ∧ w.cell? p7 = some x7 ∧ w.cell? p8 = some x8 ∧ w.cell? p9 = some x9) (hb : Below w.heap.size w w') :
    w'.cell? p0 = some x0 ∧ w'.cell? p1 = some x1 ∧ w'.cell? p2 = some x2 ∧ w'.cell? p3 = some x3 ∧ w'.cell? p4 = some x4 ∧ w'.cell? p5 = some x5 ∧ w'.cell? p6 = some x6 ∧ w'.cell? p7 = some x7 ∧ w'.cell? p8 = some x8 ∧ w'.cell? p9 = some x9 :=
 ⟨cell_later h.1 hb, cell_later h.2.1 hb, cell_later h.2.2.1 hb, cell_later h.2.2.2.1 hb, cell_later h.2.2.2.2.1 hb, cell_later h.2.2.2.2.2.1 hb, cell_later h.2.2.2.2.2.2.1 hb, cell_later h.2.2.2.2.2.2.2.1 hb, cell_later h.2.2.2.2.2.2.2.2.1 hb, cell_later h.2.2.2.2.2.2.2.2.2 hb⟩
structure SmAt (w wr : World) (x y : TV) (l m : List Tm) (k : Nat) : Prop where
 below : Below w.heap.size w wr
 b0 : wr.cell? ⟨w.heap.size, 3, none⟩ = some (.slice x.A x.len x.cap)
 b1 : wr.cell? ⟨w.heap.size + 1, 3, none⟩ = some (.slice y.A y.len y.cap)
 same : ∀ i, i < k → l[i]? = m[i]?
set_option maxHeartbeats 8000000 in
theorem same_any : ∀ (n : Nat) (t u : Tm) (x y : TV) (w : World), t.size ≤ n → t.size ≤ 10000000 → u.size ≤ 10000000 → TermAt w w.heap.size x t → TermAt w w.heap.size y u →
    Calls Tryz.prog 23 #[tvV x, tvV y] w fun e w' => e = .returned (.bool (sameTm t u)) ∧ Below w.heap.size w w' := by
 intro n
 induction n with
 | zero => intro t u x y w h; have := size_pos t; omega
 | succ n ih =>
  intro t u x y w hn hst hsu hx hy
  obtain ⟨k1, k2, k3, k4, k5, k6⟩ := hx.open
  obtain ⟨j1, j2, j3, j4, j5, j6⟩ := hy.open
  have hta : t.args.length + 1 ≤ t.size := args_size t
  have hua : u.args.length + 1 ≤ u.size := args_size u
  have hxl : (x.len : Int) ≤ 10000000 := by omega
  have hyl : (y.len : Int) ≤ 10000000 := by omega
  obtain ⟨q, hq⟩ : ∃ q, q = sameTm t u := ⟨_, rfl⟩
  rw [← hq]
  have HQ := Lib.hid hq
  clear hq
  by_cases e1 : x.k = y.k
  case neg =>
   have hne : q = false := HQ.out.trans (sameTm_false fun e => e1 (by rw [← k1, ← j1, e]))
   have b1 : (x.k != y.k) = true := bne_iff_ne.2 e1
   clear HQ k6 j6
   unfold tvV
   go_enter Tryz.func23, Tryz.ntmps23
   go_wp2_with fail
   go_ret
   exact ⟨by rw [hne]; rfl, ((Below.refl _ _).alloc (Nat.le_refl _) _).alloc (by simp) _⟩
  have b1 : (x.k != y.k) = false := by rw [e1]; simp
  by_cases e2 : x.n = y.n
  case neg =>
   have hne : q = false := HQ.out.trans (sameTm_false fun e => e2 (by rw [← k2, ← j2, e]))
   have b2 : (x.n != y.n) = true := bne_iff_ne.2 e2
   clear e1
   clear HQ k6 j6
   unfold tvV
   go_enter Tryz.func23, Tryz.ntmps23
   go_wp2_with fail
   go_ret
   exact ⟨by rw [hne]; rfl, ((Below.refl _ _).alloc (Nat.le_refl _) _).alloc (by simp) _⟩
  have b2 : (x.n != y.n) = false := by rw [e2]; simp
  by_cases e3 : x.s = y.s
  case neg =>
   have hne : q = false := HQ.out.trans (sameTm_false fun e => e3 (by rw [← k3, ← j3, e]))
   have b3 : (x.s != y.s) = true := bne_iff_ne.2 e3
   have b3' : (x.s == y.s) = false := beq_eq_false_iff_ne.2 e3
   clear e1 e2
   clear HQ k6 j6
   unfold tvV
   go_enter Tryz.func23, Tryz.ntmps23
   go_wp2_with fail
   go_ret
   exact ⟨by rw [hne]; rfl, ((Below.refl _ _).alloc (Nat.le_refl _) _).alloc (by simp) _⟩
  have b3 : (x.s != y.s) = false := by rw [e3]; simp
  have b3' : (x.s == y.s) = true := by rw [e3]; simp
  by_cases e4 : x.len = y.len
  case neg =>
   have hne : q = false := HQ.out.trans (sameTm_false fun e => e4 (by rw [← k4, ← j4, e]))
   have b4 : (x.len != y.len) = true := bne_iff_ne.2 e4
   have b4' : ((x.len : Int) != (y.len : Int)) = true := bne_iff_ne.2 (by omega)
   clear e1 e2 e3
   clear HQ k6 j6
   unfold tvV
   go_enter Tryz.func23, Tryz.ntmps23
   go_wp2_with fail
   go_ret
   exact ⟨by rw [hne]; rfl, ((Below.refl _ _).alloc (Nat.le_refl _) _).alloc (by simp) _⟩
  obtain ⟨xk, xn, xs, xA, xl, xc⟩ := x
  obtain ⟨yk, yn, ys, yA, yl, yc⟩ := y
  simp only at *
  subst e1 e2 e3 e4
  clear b1 b2 b3 b3'
  have HK := Lib.hid k6
  have HJ := Lib.hid j6
  have hT : ∀ v : Tm, v = .mk v.k v.n v.s v.args := fun v => by cases v; rfl
  have HEQ : Hid (t = u ↔ t.args = u.args) := Lib.hid ⟨fun e => by rw [e], fun e => by rw [hT t, hT u, e, k1, k2, k3, j1, j2, j3]⟩
  have HST := Lib.hid (And.intro hn (And.intro hst hsu))
  have hlt : t.args.length = u.args.length := k4.trans j4.symm
  have h0 : SmAt w ((w.alloc (.cells #[.int .i64 xk, .int .i64 xn, .string ⟨xs.toArray⟩, .slice xA xl xc] 28)).alloc (.cells #[.int .i64 xk, .int .i64 xn, .string ⟨xs.toArray⟩, .slice yA xl yc] 28)) ⟨xk, xn, xs, xA, xl, xc⟩ ⟨xk, xn, xs, yA, xl, yc⟩ t.args u.args 0 := by
   refine ⟨((Below.refl _ _).alloc (Nat.le_refl _) _).alloc (by simp) _, ?_, ?_, fun i hi => absurd hi (Nat.not_lt_zero _)⟩
   ·exact cell_later (cell_made w _ _ 3 _ rfl) ((Below.refl _ _).alloc (Nat.le_refl _) _)
   ·have := cell_made (w.alloc (.cells #[.int .i64 xk, .int .i64 xn, .string ⟨xs.toArray⟩, .slice xA xl xc] 28)) #[.int .i64 xk, .int .i64 xn, .string ⟨xs.toArray⟩, .slice yA xl yc] 28 3 (.slice yA xl yc) rfl
    rw [World.size_alloc] at this
    exact this
  have H0 := Lib.hid h0
  have HX := Lib.hid hx
  have HY := Lib.hid hy
  have HIH := Lib.hid ih
  clear k6 j6 h0 hx hy ih hn hst hsu k1 k2 k3 j1 j2 j3
  unfold tvV
  go_enter Tryz.func23, Tryz.ntmps23
  go_wp2_with fail
  go_loopw [37] (fun i wr => ∃ k : Nat, k ≤ xl ∧ i = .int .i64 (k : Nat) ∧ Hid (SmAt w wr ⟨xk, xn, xs, xA, xl, xc⟩ ⟨xk, xn, xs, yA, xl, yc⟩ t.args u.args k)) (fun i _ => xl - (intOf i).toNat)
  case atStart => exact ⟨0, Nat.zero_le _, rfl, H0⟩
  case round =>
   obtain ⟨k, hk, rfl, HR⟩ := hrel
   by_cases hkl : k < xl
   ·have hi1 : k < t.args.length := by omega
    have hi2 : k < u.args.length := by omega
    obtain ⟨xe, b, off, a1, a2, a3, a4⟩ := HK.out k _ (List.getElem?_eq_getElem hi1)
    obtain ⟨ye, b', off', c1, c2, c3, c4⟩ := HJ.out k _ (List.getElem?_eq_getElem hi2)
    have hz1 := List.getElem?_eq_getElem hi1
    have hz2 := List.getElem?_eq_getElem hi2
    have hsz1 : t.args[k].size ≤ n ∧ t.args[k].size ≤ 10000000 := by
     have h1 := mem_sizes t.args _ (List.getElem_mem hi1)
     have h2 := size_args t
     have := HST.out.1
     have := HST.out.2.1
     omega
    have hsz2 : u.args[k].size ≤ 10000000 := by
     have h1 := mem_sizes u.args _ (List.getElem_mem hi2)
     have h2 := size_args u
     have := HST.out.2.2
     omega
    generalize t.args[k] = tk at *
    generalize u.args[k] = uk at *
    subst a1 c1
    have hbw := HR.out.below
    have hsx : ∀ j v, (encTV xe)[j]? = some v → wr.cell? ⟨b, off + k * 4 + j, none⟩ = some v := fun j v hv => (hbw.cell (p := ⟨b, off + k * 4 + j, none⟩) a2).trans (a4 j v hv)
    have hsy : ∀ j v, (encTV ye)[j]? = some v → wr.cell? ⟨b', off' + k * 4 + j, none⟩ = some v := fun j v hv => (hbw.cell (p := ⟨b', off' + k * 4 + j, none⟩) c2).trans (c4 j v hv)
    have HS := Lib.hid (And.intro HR.out.b0 (And.intro HR.out.b1 (And.intro (hsx 0 _ rfl) (And.intro (hsx 1 _ rfl) (And.intro (hsx 2 _ rfl) (And.intro (hsx 3 _ rfl) (And.intro (hsy 0 _ rfl) (And.intro (hsy 1 _ rfl) (And.intro (hsy 2 _ rfl) (hsy 3 _ rfl))))))))))
    simp only [Nat.add_zero] at HS
    have hkI : (k : Int) < (xl : Int) := by omega
    have hk0 : (0 : Int) ≤ (k : Int) := by omega
    have hwk : IntKind.i64.wrap ((k : Int) + 1) = (k : Int) + 1 := IntWalk.i64_in _ (by omega)
    have HCALL : Hid (∀ W, Below wr.heap.size wr W → Calls Tryz.prog 23 #[.agg #[.int .i64 xe.k, .int .i64 xe.n, .string ⟨xe.s.toArray⟩, .slice xe.A xe.len xe.cap], .agg #[.int .i64 ye.k, .int .i64 ye.n, .string ⟨ye.s.toArray⟩, .slice ye.A ye.len ye.cap]] W fun e w' => e = .returned (.bool (sameTm tk uk)) ∧ Below W.heap.size W w') := Lib.hid fun W hW => by
     have h1 := hbw.trans (hW.mono hbw.size)
     exact HIH.out tk uk xe ye W hsz1.1 hsz1.2 hsz2 ((a3.keep (Nat.le_refl _) h1.block).up h1.size) ((c3.keep (Nat.le_refl _) h1.block).up h1.size)
    obtain ⟨z, hz⟩ : ∃ z, z = sameTm tk uk := ⟨_, rfl⟩
    rw [← hz] at HCALL
    have HZ := Lib.hid hz
    have HZZ := Lib.hid (And.intro hz1 hz2)
    clear a2 a3 a4 c2 c3 c4 hsx hsy hz hz1 hz2 hsz1 hsz2 hbw
    go_upto_region 6 with fail
    go_region_held3 (fun v => v.cell? ⟨w.heap.size, 3, none⟩ = some (.slice (some ⟨b, off, none⟩) xl xc) ∧ v.cell? ⟨w.heap.size + 1, 3, none⟩ = some (.slice (some ⟨b', off', none⟩) xl yc) ∧ v.cell? ⟨b, off + k * 4, none⟩ = some (.int .i64 xe.k) ∧ v.cell? ⟨b, off + k * 4 + 1, none⟩ = some (.int .i64 xe.n) ∧ v.cell? ⟨b, off + k * 4 + 2, none⟩ = some (.string ⟨xe.s.toArray⟩) ∧ v.cell? ⟨b, off + k * 4 + 3, none⟩ = some (.slice xe.A xe.len xe.cap) ∧
        v.cell? ⟨b', off' + k * 4, none⟩ = some (.int .i64 ye.k) ∧ v.cell? ⟨b', off' + k * 4 + 1, none⟩ = some (.int .i64 ye.n) ∧ v.cell? ⟨b', off' + k * 4 + 2, none⟩ = some (.string ⟨ye.s.toArray⟩) ∧ v.cell? ⟨b', off' + k * 4 + 3, none⟩ = some (.slice ye.A ye.len ye.cap))
     (first | (with_reducible exact HS.out) | (with_reducible exact s10_drew HS.out) | (with_reducible exact s10_later (s10_drew HS.out) hb2) | (with_reducible exact s10_drew (s10_later (s10_drew HS.out) hb2)))
     (first | (go_at_call 23; refine (HCALL.out _ (Below.refl _ _).drew).mono ?_; rintro e w2 ⟨rfl, hb2⟩))
    have hb3 := below_call' (Below.refl wr.heap.size wr).drew hb2
    have HB3 := Lib.hid hb3
    clear hb2 hb3
    cases z with
    | false =>
     have hne : q = false := HQ.out.trans (sameTm_false fun e => by
      have h1 := HEQ.out.1 e
      have h2 := HZZ.out
      rw [h1, h2.2] at h2
      have h3 : uk = tk := by simpa using h2.1
      have h4 := HZ.out
      rw [h3, sameTm_self] at h4
      cases h4)
     clear HQ
     go_wp2_with fail
     go_ret
     exact ⟨by rw [hne]; rfl, HR.out.below.trans (HB3.out.mono HR.out.below.size)⟩
    | true =>
     have hN : SmAt w w2 ⟨xk, xn, xs, some ⟨b, off, none⟩, xl, xc⟩ ⟨xk, xn, xs, some ⟨b', off', none⟩, xl, yc⟩ t.args u.args (k + 1) :=
      ⟨HR.out.below.trans (HB3.out.mono HR.out.below.size), cell_later HR.out.b0 HB3.out, cell_later HR.out.b1 HB3.out, fun i hi => by
       rcases Nat.lt_succ_iff_lt_or_eq.1 hi with h | h
       ·exact HR.out.same i h
       ·subst h
        rw [HZZ.out.1, HZZ.out.2, (sameTm_iff _ _).1 HZ.out.symm]⟩
     have HN := Lib.hid hN
     clear hN
     go_wp2_with fail
     go_roundw
     case rel => exact ⟨k + 1, by omega, rfl, HN⟩
     case measure =>
      simp only [intOf]
      omega
   ·have hqe : q = true := HQ.out.trans ((sameTm_iff _ _).2 (HEQ.out.2 (List.ext_getElem? fun i => by
     by_cases hi : i < k
     ·exact HR.out.same i hi
     ·rw [List.getElem?_eq_none (by omega), List.getElem?_eq_none (by omega)])))
    clear HQ
    go_wp2_with fail
    go_ret
    exact ⟨by rw [hqe]; rfl, HR.out.below⟩
end Go.Proofs.YtcallkljcjimiaaGreatDoor
