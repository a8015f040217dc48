import Derived.Test.YtcallkljcjimiaaGreatDoorJG09
import Derived.Test.YtcallkljcjimiaaGreatDoorJW34
import Derived.Test.YtcallkljcjimiaaGreatDoorProg
import Derived.KernelRfl
import Derived.WalkKit
import Derived.WalkSmall
import Derived.Lib.Hide
import Derived.Laws.AppendOwn
import Derived.Laws.MakeOwn
import Derived.Deep.OwnRows
import Derived.Laws.AppendOwnNone
import Derived.Deep.AppendLies
import Derived.Deep.RegionLaw
import Derived.WalkSpells
import Derived.BigQuiet
import Derived.Deep.QuietTactic
import Derived.StillTailTactics
import Derived.IntWalk
import Derived.Maps.Keyed
import Derived.StringKeys
import Derived.Lib.ItoaMem
import Derived.Lib.ItoaNum
import Derived.Deep.RegionHeld3
import Derived.Laws.OwnMore
import Derived.Shelf.Small.Strs
import Derived.Shelf.Small.Wraps
import Derived.Shelf.LaysM
import Derived.Shelf.Strings.Fields
namespace Go.Proofs.YtcallkljcjimiaaGreatDoor
open Go.RowKit Go.Maps
set_option maxRecDepth 100000
def encN (x : Int) : List Value := [.int .i64 x]
def idxF (l : List Int) (k : Nat) : List (Int × Int) := (l.zipIdx k).map fun p => (p.1, (p.2 : Int))
def idxL (l : List Int) : List (Int × Int) := idxF l 0
structure SeenAt (u : World) (B b mb : Nat) (l : List Int) : Prop where
 blk : ∃ A c, u.heap[b]? = some (.cells #[.slice A l.length c, .map (some mb)] 168 (0, 0)) ∧ Row u B 2 1 encN (.slice A l.length c) l
 map : MapAt u mb evI evI (idxL l)
 bB : b < B
 mB : mb < B
 ok : ∀ n ∈ l, okI n
theorem SeenAt.keep {u u' : World} {B b mb : Nat} {l : List Int} (h : SeenAt u B b mb l) (h1 : u'.heap[b]? = u.heap[b]?) (h2 : u'.heap[mb]? = u.heap[mb]?) (h3 : ∀ k, B ≤ k → TyB u 2 k → u'.heap[k]? = u.heap[k]?) : SeenAt u' B b mb l := by
 obtain ⟨A, c, k1, k2⟩ := h.blk
 exact ⟨⟨A, c, h1.trans k1, k2.keep fun g hg => h3 g (k2.lt g hg).1 (k2.ty hg)⟩, h.map.keep h2, h.bB, h.mB, h.ok⟩
theorem SeenAt.later {u u' : World} {B b mb : Nat} {l : List Int} (h : SeenAt u B b mb l) (hb : Below u.heap.size u u') : SeenAt u' B b mb l := by
 obtain ⟨A, c, k1, k2⟩ := h.blk
 exact h.keep (hb.block _ (Array.getElem?_eq_some_iff.1 k1).1) (hb.block _ h.map.lt) fun k _ hk => hb.block k hk.lt
theorem SeenAt.lt {u : World} {B b mb : Nat} {l : List Int} (h : SeenAt u B b mb l) : b < u.heap.size := by
 obtain ⟨A, c, k1, _⟩ := h.blk
 exact (Array.getElem?_eq_some_iff.1 k1).1
mutual
def renT (nu : List Int → Int → Int × List Int) (seen : List Int) : Tm → Tm × List Int
 | .mk k n s l => if k = 1 then (.mk 1 (nu seen n).1 s l, (nu seen n).2) else (.mk k n s (renTs nu seen l).1, (renTs nu seen l).2)
def renTs (nu : List Int → Int → Int × List Int) (seen : List Int) : List Tm → List Tm × List Int
 | [] => ([], seen)
 | t :: r => ((renT nu seen t).1 :: (renTs nu (renT nu seen t).2 r).1, (renTs nu (renT nu seen t).2 r).2)
end
theorem TyB.set {w : World} {t : TypeId} {k : Nat} (h : TyB w t k) (b j : Nat) (v : Value) : TyB (w.setCell ⟨b, j, none⟩ v) t k := by
 obtain ⟨cs, h⟩ := h
 by_cases hk : k = b
 ·subst hk
  exact ⟨_, blk_put h v⟩
 ·exact ⟨cs, (Below.heap_setCell _ _ _ _ hk).trans h⟩
theorem TyB.alloc {w : World} {t : TypeId} {k : Nat} (h : TyB w t k) (o : Obj) : TyB (w.alloc o) t k := h.keep (Below.heap_alloc _ _ _ h.lt)
section
variable {w w' w'' : World} {B0 : Nat} {p : Loc} {k n : Int} {s : List UInt8} {sl : Value}
theorem StepW.refl (w : World) (B0 : Nat) (p : Loc) : StepW w w B0 p := ⟨fun _ _ _ _ _ _ _ _ h => h, fun _ h => h, fun _ _ => rfl⟩
theorem StepW.trans (h : StepW w w' B0 p) (h2 : StepW w' w'' B0 p) : StepW w w'' B0 p :=
 ⟨fun q k n s sl e1 e2 e3 hc => h2.other q k n s sl e1 e2 (h.ty _ e3) (h.other q k n s sl e1 e2 e3 hc), fun k hk => h2.ty k (h.ty k hk), fun k hk => (h2.low k hk).trans (h.low k hk)⟩
theorem StepW.set (w : World) (hB : B0 ≤ p.1) (hp : p.2 % 4 = 0) (j : Nat) (hj : j < 4) (v : Value) : StepW w (w.setCell ⟨p.1, p.2 + j, none⟩ v) B0 p :=
 ⟨fun _ _ _ _ _ e1 e2 _ hc => hc.other hp e2 e1 j hj v, fun _ hk => hk.set _ _ _, fun k hk => Below.heap_setCell _ _ _ _ (by simp only; omega)⟩
theorem StepW.alloc (w : World) (hB : B0 ≤ w.heap.size) (p : Loc) (o : Obj) : StepW w (w.alloc o) B0 p :=
 ⟨fun _ _ _ _ _ _ _ e3 hc => hc.keep (Below.heap_alloc _ _ _ e3.lt), fun _ hk => hk.alloc _, fun k hk => Below.heap_alloc _ _ _ (by omega)⟩
end
theorem sizes_cat : ∀ (a b : List Tm), Tm.sizes (a ++ b) = Tm.sizes a + Tm.sizes b
 | [], b => by simp [Tm.sizes]
 | t :: r, b => by
  have ih := sizes_cat r b
  simp only [List.cons_append, Tm.sizes]
  omega
theorem Fr.beyond {S S' : Nat → Prop} {u w w' : World} (h : Fr S u w) (k : Fr S' w w') (hS : ∀ j, S' j → u.heap.size ≤ j) : Fr S u w' :=
 ⟨k.os.trans h.os, k.tape.trans h.tape, k.output.trans h.output, Nat.le_trans h.size k.size, fun i hi hn => (k.block i (Nat.lt_of_lt_of_le hi h.size) fun e => by have := hS i e; omega).trans (h.block i hi hn)⟩
structure RnI (u : World) (B0 : Nat) (Q : World → List Int → Prop) (nu : List Int → Int → Int × List Int) (fin : List Int) (T0 : Tm) (S : Nat → Prop) (Dn : List (Loc × Tm)) (Pd : List (Loc × Tm × Tm)) (seen : List Int) (v : Value) (wr : World) : Prop where
 ren : RenAt wr u.heap.size B0 Dn Pd
 row : Row wr u.heap.size 163 1 encPt v (Pd.reverse.map (·.1))
 q : Q wr seen
 fr : Fr S u wr
 eq : renTs nu seen (Pd.map (·.2.1)) = (Pd.map (·.2.2), fin)
 ok : ∀ x ∈ Pd, x.2.1.may = true ∧ x.2.1.fits = true
 sz : seen.length + Tm.sizes (Pd.map (·.2.1)) ≤ 1000000
 root : ((u.heap.size, 0), T0) ∈ Dn ∨ ∃ t, ((u.heap.size, 0), t, T0) ∈ Pd
 res : wr.heap[u.heap.size + 1]? = some (.cells #[.int .i64 0, .int .i64 0, .string ⟨#[]⟩, .slice none 0 0] 28 (0, 0))
 big : u.heap.size + 2 < wr.heap.size
section
variable {u wr w2 : World} {B0 : Nat} {Q : World → List Int → Prop} {nu : List Int → Int → Int × List Int} {fin : List Int} {T0 : Tm} {S : Nat → Prop} {Dn : List (Loc × Tm)} {Pd : List (Loc × Tm × Tm)} {seen : List Int} {v : Value} {p : Loc} {t T : Tm}
theorem getD_map {α : Type} (l : List α) (d : α) : (List.range l.length).map (fun i => l.getD i d) = l := by
 apply List.ext_getElem?
 intro i
 rw [List.getElem?_map]
 by_cases hi : i < l.length
 ·rw [List.getElem?_range hi, Option.map_some, List.getD_eq_getElem?_getD, List.getElem?_eq_getElem hi]
  rfl
 ·rw [List.getElem?_eq_none (by simp; omega), List.getElem?_eq_none (by omega)]
  rfl
theorem RnI.next (h : RnI u B0 Q nu fin T0 S Dn ((p, t, T) :: Pd) seen v wr) (hs : StepW wr w2 B0 p) (g c : Nat) (sl v2 : Value) (seen2 : List Int) (hseen : seen2.length ≤ seen.length + 1)
    (hT : T.s.length ≤ maxLen) (hc : Cells4 w2 p T.k T.n T.s sl) (hlen : T.args.length = t.args.length)
    (hsl : (T.args = [] ∧ sl = .slice none 0 0) ∨ sl = .slice (some ⟨g, 0, none⟩) T.args.length c)
    (hg : T.args ≠ [] → okB u.heap.size g ∧ TyB w2 28 g ∧ ∀ q, TyB wr 28 q → q ≠ g)
    (hch : ∀ i, i < T.args.length → ∃ x : TV, Cells4 w2 (g, i * 4) x.k x.n x.s (.slice x.A x.len x.cap) ∧ TermAt w2 B0 x (t.args.getD i noTm))
    (hrow : Row w2 u.heap.size 163 1 encPt v2 (Pd.reverse.map (·.1) ++ ((List.range T.args.length).map (fun i => ((g, i * 4) : Loc))).reverse)) (hq : Q w2 seen2) (hfr : Fr S u w2)
    (heq : renTs nu seen2 (t.args ++ Pd.map (·.2.1)) = (T.args ++ Pd.map (·.2.2), fin)) (hres : w2.heap[u.heap.size + 1]? = wr.heap[u.heap.size + 1]?) (hbig : wr.heap.size ≤ w2.heap.size) :
    RnI u B0 Q nu fin T0 S ((p, T) :: Dn) ((List.range T.args.length).map (fun i => ((g, i * 4), t.args.getD i noTm, T.args.getD i noTm)) ++ Pd) seen2 v2 w2 := by
 have hm1 : (((List.range T.args.length).map (fun i => (((g, i * 4), t.args.getD i noTm, T.args.getD i noTm) : Loc × Tm × Tm))).map (·.2.1)) = t.args := by
  rw [List.map_map, hlen]
  exact getD_map t.args noTm
 have hm2 : (((List.range T.args.length).map (fun i => (((g, i * 4), t.args.getD i noTm, T.args.getD i noTm) : Loc × Tm × Tm))).map (·.2.2)) = T.args := by
  rw [List.map_map]
  exact getD_map T.args noTm
 refine ⟨h.ren.step hs g c sl hT hc hsl hg hch, ?_, hq, hfr, ?_, ?_, ?_, ?_, hres.trans h.res, Nat.lt_of_lt_of_le h.big hbig⟩
 ·rw [List.reverse_append, List.map_append, List.map_reverse (l := (List.range T.args.length).map _), List.map_map]
  exact hrow
 ·rw [List.map_append, List.map_append, hm1, hm2]
  exact heq
 ·intro x hx
  rcases List.mem_append.1 hx with e | e
  ·obtain ⟨i, hi, rfl⟩ := List.mem_map.1 e
   have hi2 : i < t.args.length := by have := List.mem_range.1 hi; omega
   have hmem : t.args.getD i noTm ∈ t.args := by rw [List.getD_eq_getElem?_getD, List.getElem?_eq_getElem hi2]; exact List.getElem_mem hi2
   obtain ⟨o1, o2⟩ := h.ok _ (List.mem_cons_self ..)
   have hw : WfT t := ⟨o1, o2⟩
   exact ⟨(hw.mem hmem).may, (hw.mem hmem).fits⟩
  ·exact h.ok x (List.mem_cons_of_mem _ e)
 ·have h1 := h.sz
  rw [List.map_cons, Tm.sizes] at h1
  have h1 : seen.length + (t.size + Tm.sizes (Pd.map (·.2.1))) ≤ 1000000 := h1
  have h2 := size_args t
  have h3 : Tm.sizes (t.args ++ Pd.map (·.2.1)) = Tm.sizes t.args + Tm.sizes (Pd.map (·.2.1)) := sizes_cat _ _
  rw [List.map_append, hm1, h3]
  omega
 ·rcases h.root with e | ⟨t', e⟩
  ·exact .inl (List.mem_cons_of_mem _ e)
  ·rcases List.mem_cons.1 e with e | e
   ·injection e with e1 e2
    injection e2 with e2 e3
    exact .inl (by rw [e1, e3]; exact List.mem_cons_self)
   ·exact .inr ⟨t', List.mem_append_right _ e⟩
end
end Go.Proofs.YtcallkljcjimiaaGreatDoor
namespace Go.Proofs.YtcallkljcjimiaaGreatDoor
section
variable {o : OpsF} {ts : List Tok}
theorem rest_c (H : TabOk o) (c : UInt8) (hc : c = 41 ∨ c = 93 ∨ c = 124) (rb : Int) (a : Bool) : RestOk o (pL c) rb a :=
 rest_p o H c (by rcases hc with h | h | h <;> simp [h]) rb (fun e => by rcases hc with h | h | h <;> (rw [h] at e; exact absurd e (by decide))) a
theorem back_more {s : RdS} {F : WaitF} {W : List WaitF} (hu : F.use = 2 ∨ F.use = 3) (h : isP ts s.at' 44 = true) :
    backF ts s F W = .ok (({ s with wait := W, most := F.most }.go 1).again { F with l := F.l ++ [s.t] } 999) := by
 unfold backF backG
 rcases hu with hu | hu
 ·rw [if_neg (by rw [hu]; decide), if_neg (by rw [hu]; decide), if_neg (by rw [hu]; decide), if_neg (by rw [hu]; decide), if_pos hu]
  simp only
  rw [if_pos h]
 ·rw [if_neg (by rw [hu]; decide), if_neg (by rw [hu]; decide), if_neg (by rw [hu]; decide), if_neg (by rw [hu]; decide), if_neg (by rw [hu]; decide), if_pos hu]
  simp only
  rw [if_pos h]
theorem reads_items (H : TabOk o) (g : Tm → Int → List Lxm) : ∀ (l : List Tm), l ≠ [] → (∀ t ∈ l, WfT t ∧ ∃ pr rb a, Reads o ts (g t 999) t pr rb a ∧ pr ≤ 999 ∧ rb ≤ 999) →
    ∀ (s : RdS) (F : WaitF) (W : List WaitF) (seen : List Int) (c : UInt8) (r : List Lxm), s.hv = false → s.most = 999 → s.wait = F :: W → (F.use = 2 ∨ F.use = 3) → SeenIs s seen → AtL ts s.at' (commaL g l ++ pL c :: r) → (c = 41 ∨ c = 93 ∨ c = 124) →
    ∃ (ini : List Tm) (last : Tm) (p : Int), (nrTs seen l).1 = ini ++ [last] ∧ endF o ts s = endF o ts ⟨s.at' + (commaL g l).length, { F with l := F.l ++ ini } :: W, 999, true, last, p, varsOf 0 (nrTs seen l).2, varsOf 0 (nrTs seen l).2, ((nrTs seen l).2.length : Int)⟩
 | [], h, _ => absurd rfl h
 | [t], _, h => fun s F W seen c r hv hm hw hu hs ha hc => by
  obtain ⟨hwt, pr, rb, a, hr, hp, hb⟩ := h t (by simp)
  refine ⟨[], (nrT seen t).1, pr, by rw [nrTs, nrTs]; rfl, ?_⟩
  rw [hr s seen (pL c) r hv hs ha (by omega) (rest_c H c hc rb a)]
  congr 1
  refine RdS.eq rfl ?_ hm rfl rfl rfl ?_ ?_ ?_
  ·show s.wait = _
   rw [hw, List.append_nil]
  ·rw [nrTs, nrTs]; rfl
  ·rw [nrTs, nrTs]; rfl
  ·rw [nrTs, nrTs]; rfl
 | t :: t2 :: l, _, h => fun s F W seen c r hv hm hw hu hs ha hc => by
  obtain ⟨hwt, pr, rb, a, hr, hp, hb⟩ := h t (by simp)
  have hcl : commaL g (t :: t2 :: l) = g t 999 ++ pL 44 :: commaL g (t2 :: l) := rfl
  rw [hcl] at ha ⊢
  rw [List.append_assoc, List.cons_append] at ha
  have hR : RestOk o (pL 44) 999 true := rest_p o H 44 (.inr (.inl rfl)) 999 (fun _ => Int.le_refl _) true
  have e1 := hr s seen (pL 44) _ hv hs ha (by omega) (hR.less hb fun _ => rfl)
  have ha2 := at_app _ _ _ ha
  have hno : operatorF o ts (s.put (g t 999).length (nrT seen t) pr) = none := hR.noOp ha2 (by show s.most ≤ 999; omega)
  have hmk : isP ts (s.put (g t 999).length (nrT seen t) pr).at' 44 = true := by
   show isP ts (s.at' + (g t 999).length) 44 = true
   rw [at_mark ha2]
   rfl
  have e2 := lx_round_back (s := s.put (g t 999).length (nrT seen t) pr) rfl hno hw (back_more hu hmk)
  have hs2 : SeenIs (({ s.put (g t 999).length (nrT seen t) pr with wait := W, most := F.most }.go 1).again { F with l := F.l ++ [(nrT seen t).1] } 999) (nrT seen t).2 := ⟨rfl, rfl, rfl, fit_nrT t seen hwt hs.fit⟩
  obtain ⟨ini, last, p, h1, h2⟩ := reads_items H g (t2 :: l) (by simp) (fun x hx => h x (List.mem_cons_of_mem _ hx)) _ { F with l := F.l ++ [(nrT seen t).1] } W (nrT seen t).2 c r rfl rfl rfl hu hs2 (at_next ha2) hc
  refine ⟨(nrT seen t).1 :: ini, last, p, by rw [nrTs, h1]; rfl, ?_⟩
  rw [e1, e2]
  refine h2.trans ?_
  congr 1
  refine RdS.eq ?_ ?_ rfl rfl rfl rfl ?_ ?_ ?_
  ·show s.at' + (g t 999).length + 1 + (commaL g (t2 :: l)).length = s.at' + (g t 999 ++ pL 44 :: commaL g (t2 :: l)).length
   simp only [List.length_append, List.length_cons]
   omega
  ·show ({ F with l := F.l ++ [(nrT seen t).1] ++ ini } : WaitF) :: W = { F with l := F.l ++ (nrT seen t).1 :: ini } :: W
   rw [List.append_assoc]
   rfl
  ·conv => rhs; rw [nrTs]
  ·conv => rhs; rw [nrTs]
  ·conv => rhs; rw [nrTs]
theorem args_go {s : RdS} {n : List UInt8} (h : isP ts s.at' 40 = true) : argsF ts s n = .ok ((s.go 1).await ⟨2, 0, n, 0, []⟩ 999) := by
 unfold argsF
 rw [exp_ok h]
theorem reads_func (H : TabOk o) (g : Tm → Int → List Lxm) (nm : List UInt8) (l : List Tm) (hl : l ≠ []) (h : ∀ t ∈ l, WfT t ∧ ∃ pr rb a, Reads o ts (g t 999) t pr rb a ∧ pr ≤ 999 ∧ rb ≤ 999) (rb' : Int) (a' : Bool) :
    Reads o ts (nmL nm ++ pL 40 :: (commaL g l ++ [pL 41])) (compT nm l) 0 rb' a' := by
 intro s seen b r hv hs ha hm hr
 have ha' : AtL ts s.at' (nmL nm ++ (pL 40 :: (commaL g l ++ pL 41 :: b :: r))) := by simpa using ha
 have ha2 := at_app _ _ _ ha'
 have hmk : isP ts (s.at' + (nmL nm).length) 40 = true := by rw [at_mark ha2]; rfl
 have e1 : primaryF o ts s = .ok (((s.go (nmL nm).length).go 1).await ⟨2, 0, nm, 0, []⟩ 999) := by
  by_cases hn : nm = [91, 93] ∨ nm = [123, 125]
  ·rw [prim_pair hn ha', if_pos (by rfl)]
   have hlen : (nmL nm).length = 2 := by unfold nmL; rw [if_pos hn]; rfl
   rw [hlen] at hmk ⊢
   exact args_go (s := s.go 2) hmk
  ·obtain ⟨x, hx, hxk, hxs, -⟩ := nm_one hn
   rw [hx] at ha' hmk ⊢
   obtain ⟨h1, -, h3, h4, -⟩ := at_head ha'
   have ha3 := at_next ha'
   obtain ⟨g1, -, -, -, -⟩ := at_head ha3
   rw [prim_atom h1 hxk]
   unfold atomF
   simp only
   rw [h1, h3, h4, hxs, g1, if_neg (fun h => absurd h.2.2.1 (by show ¬ (6 : Int) = 3; decide)), if_pos (by rfl)]
   exact args_go (s := s.go 1) hmk
 rw [round_prim' hv e1]
 have hs1 : SeenIs (((s.go (nmL nm).length).go 1).await ⟨2, 0, nm, 0, []⟩ 999) seen := ⟨hs.vars, hs.names, hs.cnt, hs.fit⟩
 have ha4 := at_next ha2
 obtain ⟨ini, last, p, h1, h2⟩ := reads_items H g l hl h (((s.go (nmL nm).length).go 1).await ⟨2, 0, nm, 0, []⟩ 999) ⟨2, s.most, nm, 0, []⟩ s.wait seen 41 (b :: r) rfl rfl rfl (.inl rfl) hs1 ha4 (.inl rfl)
 rw [h2]
 have ha5 := at_app _ _ _ ha4
 have hR : RestOk o (pL 41) 1200 true := rest_c H 41 (.inl rfl) 1200 true
 have hno := hR.noOp (s := ⟨s.at' + (nmL nm).length + 1 + (commaL g l).length, ⟨2, s.most, nm, 0, [] ++ ini⟩ :: s.wait, 999, true, last, p, varsOf 0 (nrTs seen l).2, varsOf 0 (nrTs seen l).2, ((nrTs seen l).2.length : Int)⟩) ha5 (by show (999 : Int) ≤ 1200; decide)
 refine lx_round_back rfl hno rfl ?_
 have hmk5 : isP ts (s.at' + (nmL nm).length + 1 + (commaL g l).length) 41 = true := by rw [at_mark ha5]; rfl
 have hmk6 : isP ts (s.at' + (nmL nm).length + 1 + (commaL g l).length) 44 = false := by rw [at_mark ha5]; rfl
 unfold backF backG
 rw [if_neg (show ¬ (2 : Int) = 0 by decide), if_neg (show ¬ (2 : Int) = 1 by decide), if_neg (show ¬ (2 : Int) = 5 by decide), if_neg (show ¬ (2 : Int) = 6 by decide), if_pos rfl]
 simp only
 rw [hmk6, if_neg (by decide), exp_ok (c := 41) hmk5]
 show Except.ok _ = _
 congr 1
 rw [nrT_comp]
 refine RdS.eq ?_ rfl rfl rfl ?_ rfl rfl rfl rfl
 ·show s.at' + (nmL nm).length + 1 + (commaL g l).length + 1 = s.at' + (nmL nm ++ pL 40 :: (commaL g l ++ [pL 41])).length
  simp only [List.length_append, List.length_cons, List.length_nil]
  omega
 ·show compT nm ([] ++ ini ++ [last]) = compT nm (nrTs seen l).1
  rw [h1]
  rfl
theorem nrTs_app (seen : List Int) : ∀ (l : List Tm) (tl : Tm), nrT seen (listT l tl) = (listT (nrTs seen l).1 (nrT (nrTs seen l).2 tl).1, (nrT (nrTs seen l).2 tl).2)
 | [], tl => by rw [nrTs]; rfl
 | t :: l, tl => by
  have ih := nrTs_app (nrT seen t).2 l tl
  show nrT seen (compT [46] [t, listT l tl]) = _
  rw [nrT_comp, nrTs, nrTs, nrTs, ih, nrTs]
  rfl
theorem reads_list (H : TabOk o) (g : Tm → Int → List Lxm) (l : List Tm) (tl : Tm) (hl : l ≠ []) (h : ∀ t ∈ l, WfT t ∧ ∃ pr rb a, Reads o ts (g t 999) t pr rb a ∧ pr ≤ 999 ∧ rb ≤ 999) (hh : ∃ x y, commaL g l = x :: y ∧ (x.kind = 6 → x.s ≠ [93]))
    (lt : List Lxm) (ht : (lt = [] ∧ tl = nilT) ∨ (∃ y, lt = pL 124 :: y ∧ ∃ pr rb a, Reads o ts y tl pr rb a ∧ pr ≤ 999 ∧ rb ≤ 999)) (rb' : Int) (a' : Bool) :
    Reads o ts (pL 91 :: (commaL g l ++ (lt ++ [pL 93]))) (listT l tl) 0 rb' a' := by
 intro s seen b r hv hs ha hm hr
 have ha' : AtL ts s.at' (pL 91 :: (commaL g l ++ (lt ++ pL 93 :: b :: r))) := by simpa using ha
 obtain ⟨h1, -, h3, -, -⟩ := at_head ha'
 have ha2 := at_next ha'
 have e1 : primaryF o ts s = .ok ((s.go 1).await ⟨3, 0, [], 0, []⟩ 999) := by
  rw [prim_p h1, h3]
  unfold punctF
  rw [if_neg (by decide), if_pos (by rfl)]
  obtain ⟨x, y, hxy, hx⟩ := hh
  rw [if_neg]
  rw [hxy] at ha2
  rw [at_mark (a := x) (r := y ++ (lt ++ pL 93 :: b :: r)) ha2, Bool.and_eq_true, decide_eq_true_eq, decide_eq_true_eq]
  exact fun e => hx e.1 e.2
 rw [round_prim' hv e1, nrTs_app]
 have hs1 : SeenIs ((s.go 1).await ⟨3, 0, [], 0, []⟩ 999) seen := hs.await 1 _ _
 rcases ht with ⟨rfl, rfl⟩ | ⟨y, rfl, pr, rb, a, hy, hyp, hyb⟩
 ·have hnil : ∀ sn, nrT sn nilT = (nilT, sn) := fun sn => nrT_leaf sn (by decide)
  rw [hnil]
  obtain ⟨ini, last, p, i1, i2⟩ := reads_items H g l hl h ((s.go 1).await ⟨3, 0, [], 0, []⟩ 999) ⟨3, s.most, [], 0, []⟩ s.wait seen 93 (b :: r) rfl rfl rfl (.inr rfl) hs1 ha2 (.inr (.inl rfl))
  rw [i2]
  have ha5 := at_app _ _ _ ha2
  have hR : RestOk o (pL 93) 1200 true := rest_c H 93 (.inr (.inl rfl)) 1200 true
  have hno := hR.noOp (s := ⟨s.at' + 1 + (commaL g l).length, ⟨3, s.most, [], 0, [] ++ ini⟩ :: s.wait, 999, true, last, p, varsOf 0 (nrTs seen l).2, varsOf 0 (nrTs seen l).2, ((nrTs seen l).2.length : Int)⟩) ha5 (by show (999 : Int) ≤ 1200; decide)
  refine lx_round_back rfl hno rfl ?_
  have hmk5 : isP ts (s.at' + 1 + (commaL g l).length) 93 = true := by rw [at_mark ha5]; rfl
  have hmk6 : isP ts (s.at' + 1 + (commaL g l).length) 44 = false := by rw [at_mark ha5]; rfl
  have hmk7 : isP ts (s.at' + 1 + (commaL g l).length) 124 = false := by rw [at_mark ha5]; rfl
  unfold backF backG
  rw [if_neg (show ¬ (3 : Int) = 0 by decide), if_neg (show ¬ (3 : Int) = 1 by decide), if_neg (show ¬ (3 : Int) = 5 by decide), if_neg (show ¬ (3 : Int) = 6 by decide), if_neg (show ¬ (3 : Int) = 2 by decide), if_pos rfl]
  simp only
  rw [hmk6, if_neg (by decide), hmk7, if_neg (by decide), exp_ok (c := 93) hmk5]
  show Except.ok _ = _
  congr 1
  refine RdS.eq ?_ rfl rfl rfl ?_ rfl rfl rfl rfl
  ·show s.at' + 1 + (commaL g l).length + 1 = s.at' + (pL 91 :: (commaL g l ++ ([] ++ [pL 93]))).length
   simp only [List.length_append, List.length_cons, List.length_nil]
   omega
  ·show listT ([] ++ ini ++ [last]) nilT = listT (nrTs seen l).1 nilT
   rw [i1]
   rfl
 ·obtain ⟨ini, last, p, i1, i2⟩ := reads_items H g l hl h ((s.go 1).await ⟨3, 0, [], 0, []⟩ 999) ⟨3, s.most, [], 0, []⟩ s.wait seen 124 (y ++ pL 93 :: b :: r) rfl rfl rfl (.inr rfl) hs1 ha2 (.inr (.inr rfl))
  rw [i2]
  have hft := fit_nrTs l seen (fun x hx => (h x hx).1) hs.fit
  have ha5 : AtL ts (s.at' + 1 + (commaL g l).length) (pL 124 :: (y ++ pL 93 :: b :: r)) := at_app _ _ _ ha2
  have hR : RestOk o (pL 124) 1200 true := rest_c H 124 (.inr (.inr rfl)) 1200 true
  have hno := hR.noOp (s := ⟨s.at' + 1 + (commaL g l).length, ⟨3, s.most, [], 0, [] ++ ini⟩ :: s.wait, 999, true, last, p, varsOf 0 (nrTs seen l).2, varsOf 0 (nrTs seen l).2, ((nrTs seen l).2.length : Int)⟩) ha5 (by show (999 : Int) ≤ 1200; decide)
  have hmk6 : isP ts (s.at' + 1 + (commaL g l).length) 44 = false := by rw [at_mark ha5]; rfl
  have hmk7 : isP ts (s.at' + 1 + (commaL g l).length) 124 = true := by rw [at_mark ha5]; rfl
  have e2 : backF ts ⟨s.at' + 1 + (commaL g l).length, ⟨3, s.most, [], 0, [] ++ ini⟩ :: s.wait, 999, true, last, p, varsOf 0 (nrTs seen l).2, varsOf 0 (nrTs seen l).2, ((nrTs seen l).2.length : Int)⟩ ⟨3, s.most, [], 0, [] ++ ini⟩ s.wait = .ok ⟨s.at' + 1 + (commaL g l).length + 1, ⟨4, s.most, [], 0, [] ++ ini ++ [last]⟩ :: s.wait, 999, false, last, p, varsOf 0 (nrTs seen l).2, varsOf 0 (nrTs seen l).2, ((nrTs seen l).2.length : Int)⟩ := by
   unfold backF backG
   rw [if_neg (show ¬ (3 : Int) = 0 by decide), if_neg (show ¬ (3 : Int) = 1 by decide), if_neg (show ¬ (3 : Int) = 5 by decide), if_neg (show ¬ (3 : Int) = 6 by decide), if_neg (show ¬ (3 : Int) = 2 by decide), if_pos rfl]
   simp only
   rw [hmk6, if_neg (by decide), hmk7, if_pos rfl]
   rfl
  have e3 := lx_round_back (o := o) (ts := ts) (s := ⟨s.at' + 1 + (commaL g l).length, ⟨3, s.most, [], 0, [] ++ ini⟩ :: s.wait, 999, true, last, p, varsOf 0 (nrTs seen l).2, varsOf 0 (nrTs seen l).2, ((nrTs seen l).2.length : Int)⟩) rfl hno rfl e2
  refine Eq.trans e3 ?_
  have ha6 := at_next ha5
  have hs6 : SeenIs ⟨s.at' + 1 + (commaL g l).length + 1, ⟨4, s.most, [], 0, [] ++ ini ++ [last]⟩ :: s.wait, 999, false, last, p, varsOf 0 (nrTs seen l).2, varsOf 0 (nrTs seen l).2, ((nrTs seen l).2.length : Int)⟩ (nrTs seen l).2 := ⟨rfl, rfl, rfl, hft⟩
  have hR9 : RestOk o (pL 93) 1200 true := rest_c H 93 (.inr (.inl rfl)) 1200 true
  rw [hy _ (nrTs seen l).2 (pL 93) (b :: r) rfl hs6 ha6 hyp (rest_c H 93 (.inr (.inl rfl)) rb a)]
  have ha7 : AtL ts (s.at' + 1 + (commaL g l).length + 1 + y.length) (pL 93 :: b :: r) := at_app _ _ _ ha6
  have hno2 := hR9.noOp (s := RdS.put ⟨s.at' + 1 + (commaL g l).length + 1, ⟨4, s.most, [], 0, [] ++ ini ++ [last]⟩ :: s.wait, 999, false, last, p, varsOf 0 (nrTs seen l).2, varsOf 0 (nrTs seen l).2, ((nrTs seen l).2.length : Int)⟩ y.length (nrT (nrTs seen l).2 tl) pr) ha7 (by show (999 : Int) ≤ 1200; decide)
  refine lx_round_back rfl hno2 rfl ?_
  have hmk5 : isP ts (s.at' + 1 + (commaL g l).length + 1 + y.length) 93 = true := by rw [at_mark ha7]; rfl
  unfold backF backG
  rw [if_neg (show ¬ (4 : Int) = 0 by decide), if_neg (show ¬ (4 : Int) = 1 by decide), if_neg (show ¬ (4 : Int) = 5 by decide), if_neg (show ¬ (4 : Int) = 6 by decide), if_neg (show ¬ (4 : Int) = 2 by decide), if_neg (show ¬ (4 : Int) = 3 by decide), if_pos rfl]
  rw [exp_ok (c := 93) hmk5]
  show Except.ok _ = _
  congr 1
  refine RdS.eq ?_ rfl rfl rfl ?_ rfl rfl rfl rfl
  ·show s.at' + 1 + (commaL g l).length + 1 + y.length + 1 = s.at' + (pL 91 :: (commaL g l ++ ((pL 124 :: y) ++ [pL 93]))).length
   simp only [List.length_append, List.length_cons, List.length_nil]
   omega
  ·show listT ([] ++ ini ++ [last]) (nrT (nrTs seen l).2 tl).1 = listT (nrTs seen l).1 (nrT (nrTs seen l).2 tl).1
   rw [i1]
   rfl
end
end Go.Proofs.YtcallkljcjimiaaGreatDoor
