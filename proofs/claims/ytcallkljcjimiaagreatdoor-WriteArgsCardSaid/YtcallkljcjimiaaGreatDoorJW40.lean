import Derived.Test.YtcallkljcjimiaaGreatDoorJW39
import Derived.Lib.ItoaMem
namespace Go.Proofs.YtcallkljcjimiaaGreatDoor
open Go.RowKit Go.Maps
set_option maxRecDepth 100000
def encN (x : Int) : List Value := [.int .i64 x]
def idxF (l : List Int) (k : Nat) : List (Int × Int) := (l.zipIdx k).map fun p => (p.1, (p.2 : Int))
def idxL (l : List Int) : List (Int × Int) := idxF l 0
structure SeenAt (u : World) (B b mb : Nat) (l : List Int) : Prop where
 blk : ∃ A c, u.heap[b]? = some (.cells #[.slice A l.length c, .map (some mb)] 168 (0, 0)) ∧ Row u B 2 1 encN (.slice A l.length c) l
 map : MapAt u mb evI evI (idxL l)
 bB : b < B
 mB : mb < B
 ok : ∀ n ∈ l, okI n
theorem SeenAt.keep {u u' : World} {B b mb : Nat} {l : List Int} (h : SeenAt u B b mb l) (h1 : u'.heap[b]? = u.heap[b]?) (h2 : u'.heap[mb]? = u.heap[mb]?) (h3 : ∀ k, B ≤ k → TyB u 2 k → u'.heap[k]? = u.heap[k]?) : SeenAt u' B b mb l := by
 obtain ⟨A, c, k1, k2⟩ := h.blk
 exact ⟨⟨A, c, h1.trans k1, k2.keep fun g hg => h3 g (k2.lt g hg).1 (k2.ty hg)⟩, h.map.keep h2, h.bB, h.mB, h.ok⟩
theorem SeenAt.later {u u' : World} {B b mb : Nat} {l : List Int} (h : SeenAt u B b mb l) (hb : Below u.heap.size u u') : SeenAt u' B b mb l := by
 obtain ⟨A, c, k1, k2⟩ := h.blk
 exact h.keep (hb.block _ (Array.getElem?_eq_some_iff.1 k1).1) (hb.block _ h.map.lt) fun k _ hk => hb.block k hk.lt
theorem SeenAt.lt {u : World} {B b mb : Nat} {l : List Int} (h : SeenAt u B b mb l) : b < u.heap.size := by
 obtain ⟨A, c, k1, _⟩ := h.blk
 exact (Array.getElem?_eq_some_iff.1 k1).1
mutual
def renT (nu : List Int → Int → Int × List Int) (seen : List Int) : Tm → Tm × List Int
 | .mk k n s l => if k = 1 then (.mk 1 (nu seen n).1 s l, (nu seen n).2) else (.mk k n s (renTs nu seen l).1, (renTs nu seen l).2)
def renTs (nu : List Int → Int → Int × List Int) (seen : List Int) : List Tm → List Tm × List Int
 | [] => ([], seen)
 | t :: r => ((renT nu seen t).1 :: (renTs nu (renT nu seen t).2 r).1, (renTs nu (renT nu seen t).2 r).2)
end
theorem TyB.set {w : World} {t : TypeId} {k : Nat} (h : TyB w t k) (b j : Nat) (v : Value) : TyB (w.setCell ⟨b, j, none⟩ v) t k := by
 obtain ⟨cs, h⟩ := h
 by_cases hk : k = b
 ·subst hk
  exact ⟨_, blk_put h v⟩
 ·exact ⟨cs, (Below.heap_setCell _ _ _ _ hk).trans h⟩
section
variable {w w' w'' : World} {B0 : Nat} {p : Loc} {k n : Int} {s : List UInt8} {sl : Value}
theorem StepW.trans (h : StepW w w' B0 p) (h2 : StepW w' w'' B0 p) : StepW w w'' B0 p :=
 ⟨fun q k n s sl e1 e2 e3 hc => h2.other q k n s sl e1 e2 (h.ty _ e3) (h.other q k n s sl e1 e2 e3 hc), fun k hk => h2.ty k (h.ty k hk), fun k hk => (h2.low k hk).trans (h.low k hk)⟩
theorem StepW.set (w : World) (hB : B0 ≤ p.1) (hp : p.2 % 4 = 0) (j : Nat) (hj : j < 4) (v : Value) : StepW w (w.setCell ⟨p.1, p.2 + j, none⟩ v) B0 p :=
 ⟨fun _ _ _ _ _ e1 e2 _ hc => hc.other hp e2 e1 j hj v, fun _ hk => hk.set _ _ _, fun k hk => Below.heap_setCell _ _ _ _ (by simp only; omega)⟩
end
theorem sizes_cat : ∀ (a b : List Tm), Tm.sizes (a ++ b) = Tm.sizes a + Tm.sizes b
 | [], b => by simp [Tm.sizes]
 | t :: r, b => by
  have ih := sizes_cat r b
  simp only [List.cons_append, Tm.sizes]
  omega
theorem Fr.beyond {S S' : Nat → Prop} {u w w' : World} (h : Fr S u w) (k : Fr S' w w') (hS : ∀ j, S' j → u.heap.size ≤ j) : Fr S u w' :=
 ⟨k.os.trans h.os, k.tape.trans h.tape, k.output.trans h.output, Nat.le_trans h.size k.size, fun i hi hn => (k.block i (Nat.lt_of_lt_of_le hi h.size) fun e => by have := hS i e; omega).trans (h.block i hi hn)⟩
structure RnI (u : World) (B0 : Nat) (Q : World → List Int → Prop) (nu : List Int → Int → Int × List Int) (fin : List Int) (T0 : Tm) (S : Nat → Prop) (Dn : List (Loc × Tm)) (Pd : List (Loc × Tm × Tm)) (seen : List Int) (v : Value) (wr : World) : Prop where
 ren : RenAt wr u.heap.size B0 Dn Pd
 row : Row wr u.heap.size 163 1 encPt v (Pd.reverse.map (·.1))
 q : Q wr seen
 fr : Fr S u wr
 eq : renTs nu seen (Pd.map (·.2.1)) = (Pd.map (·.2.2), fin)
 ok : ∀ x ∈ Pd, x.2.1.may = true ∧ x.2.1.fits = true
 sz : seen.length + Tm.sizes (Pd.map (·.2.1)) ≤ 1000000
 root : ((u.heap.size, 0), T0) ∈ Dn ∨ ∃ t, ((u.heap.size, 0), t, T0) ∈ Pd
 res : wr.heap[u.heap.size + 1]? = some (.cells #[.int .i64 0, .int .i64 0, .string ⟨#[]⟩, .slice none 0 0] 28 (0, 0))
 big : u.heap.size + 2 < wr.heap.size
section
variable {u wr w2 : World} {B0 : Nat} {Q : World → List Int → Prop} {nu : List Int → Int → Int × List Int} {fin : List Int} {T0 : Tm} {S : Nat → Prop} {Dn : List (Loc × Tm)} {Pd : List (Loc × Tm × Tm)} {seen : List Int} {v : Value} {p : Loc} {t T : Tm}
theorem getD_map {α : Type} (l : List α) (d : α) : (List.range l.length).map (fun i => l.getD i d) = l := by
 apply List.ext_getElem?
 intro i
 rw [List.getElem?_map]
 by_cases hi : i < l.length
 ·rw [List.getElem?_range hi, Option.map_some, List.getD_eq_getElem?_getD, List.getElem?_eq_getElem hi]
  rfl
 ·rw [List.getElem?_eq_none (by simp; omega), List.getElem?_eq_none (by omega)]
  rfl
theorem RnI.next (h : RnI u B0 Q nu fin T0 S Dn ((p, t, T) :: Pd) seen v wr) (hs : StepW wr w2 B0 p) (g c : Nat) (sl v2 : Value) (seen2 : List Int) (hseen : seen2.length ≤ seen.length + 1)
    (hT : T.s.length ≤ maxLen) (hc : Cells4 w2 p T.k T.n T.s sl) (hlen : T.args.length = t.args.length)
    (hsl : (T.args = [] ∧ sl = .slice none 0 0) ∨ sl = .slice (some ⟨g, 0, none⟩) T.args.length c)
    (hg : T.args ≠ [] → okB u.heap.size g ∧ TyB w2 28 g ∧ ∀ q, TyB wr 28 q → q ≠ g)
    (hch : ∀ i, i < T.args.length → ∃ x : TV, Cells4 w2 (g, i * 4) x.k x.n x.s (.slice x.A x.len x.cap) ∧ TermAt w2 B0 x (t.args.getD i noTm))
    (hrow : Row w2 u.heap.size 163 1 encPt v2 (Pd.reverse.map (·.1) ++ ((List.range T.args.length).map (fun i => ((g, i * 4) : Loc))).reverse)) (hq : Q w2 seen2) (hfr : Fr S u w2)
    (heq : renTs nu seen2 (t.args ++ Pd.map (·.2.1)) = (T.args ++ Pd.map (·.2.2), fin)) (hres : w2.heap[u.heap.size + 1]? = wr.heap[u.heap.size + 1]?) (hbig : wr.heap.size ≤ w2.heap.size) :
    RnI u B0 Q nu fin T0 S ((p, T) :: Dn) ((List.range T.args.length).map (fun i => ((g, i * 4), t.args.getD i noTm, T.args.getD i noTm)) ++ Pd) seen2 v2 w2 := by
 have hm1 : (((List.range T.args.length).map (fun i => (((g, i * 4), t.args.getD i noTm, T.args.getD i noTm) : Loc × Tm × Tm))).map (·.2.1)) = t.args := by
  rw [List.map_map, hlen]
  exact getD_map t.args noTm
 have hm2 : (((List.range T.args.length).map (fun i => (((g, i * 4), t.args.getD i noTm, T.args.getD i noTm) : Loc × Tm × Tm))).map (·.2.2)) = T.args := by
  rw [List.map_map]
  exact getD_map T.args noTm
 refine ⟨h.ren.step hs g c sl hT hc hsl hg hch, ?_, hq, hfr, ?_, ?_, ?_, ?_, hres.trans h.res, Nat.lt_of_lt_of_le h.big hbig⟩
 ·rw [List.reverse_append, List.map_append, List.map_reverse (l := (List.range T.args.length).map _), List.map_map]
  exact hrow
 ·rw [List.map_append, List.map_append, hm1, hm2]
  exact heq
 ·intro x hx
  rcases List.mem_append.1 hx with e | e
  ·obtain ⟨i, hi, rfl⟩ := List.mem_map.1 e
   have hi2 : i < t.args.length := by have := List.mem_range.1 hi; omega
   have hmem : t.args.getD i noTm ∈ t.args := by rw [List.getD_eq_getElem?_getD, List.getElem?_eq_getElem hi2]; exact List.getElem_mem hi2
   obtain ⟨o1, o2⟩ := h.ok _ (List.mem_cons_self ..)
   have hw : WfT t := ⟨o1, o2⟩
   exact ⟨(hw.mem hmem).may, (hw.mem hmem).fits⟩
  ·exact h.ok x (List.mem_cons_of_mem _ e)
 ·have h1 := h.sz
  rw [List.map_cons, Tm.sizes] at h1
  have h1 : seen.length + (t.size + Tm.sizes (Pd.map (·.2.1))) ≤ 1000000 := h1
  have h2 := size_args t
  have h3 : Tm.sizes (t.args ++ Pd.map (·.2.1)) = Tm.sizes t.args + Tm.sizes (Pd.map (·.2.1)) := sizes_cat _ _
  rw [List.map_append, hm1, h3]
  omega
 ·rcases h.root with e | ⟨t', e⟩
  ·exact .inl (List.mem_cons_of_mem _ e)
  ·rcases List.mem_cons.1 e with e | e
   ·injection e with e1 e2
    injection e2 with e2 e3
    exact .inl (by rw [e1, e3]; exact List.mem_cons_self)
   ·exact .inr ⟨t', List.mem_append_right _ e⟩
end
end Go.Proofs.YtcallkljcjimiaaGreatDoor
namespace Go.Proofs.YtcallkljcjimiaaGreatDoor
structure Lxm where
 sp : Bool
 kind : Int
 n : Int
 s : List UInt8
 txt : List UInt8
def Lxm.out (a : Lxm) : List UInt8 := if a.sp then 32 :: a.txt else a.txt
def opnL (l : List Lxm) : Bool := match l with | [] => false | b :: _ => !b.sp && decide (b.txt.head? = some 40)
def tkL : Bool → List Lxm → List Tok
 | _, [] => []
 | first, a :: r => ⟨a.kind, 1, a.n, a.s, opnL r, !first && !a.sp⟩ :: tkL false r
structure Soft (x : UInt8) : Prop where
 word : isWord x = false
 sign : isSign x = false
 quote : x ≠ 39
theorem Soft.ne {x c : UInt8} (h : Soft x) (hc : isWord c = true ∨ isSign c = true ∨ c = 39) : x ≠ c := by
 rintro rfl
 rcases hc with h1 | h1 | h1
 ·rw [h.word] at h1; cases h1
 ·rw [h.sign] at h1; cases h1
 ·exact h.quote h1
theorem Soft.dig {x : UInt8} (h : Soft x) : ¬ digVal x < 10 := by
 intro h1
 have h2 : isWord x = true := by
  unfold digVal at h1
  unfold isWord bsort bsortI
  have h3 : 48 ≤ x.toNat ∧ x.toNat ≤ 57 := by
   split at h1
   ·assumption
   ·split at h1
    ·omega
    ·split at h1
     ·omega
     ·omega
  rw [if_neg (by omega), if_neg (by omega), if_neg (by omega), if_pos (by omega)]
  rfl
 rw [h.word] at h2
 cases h2
section
variable {x : UInt8} (hx : Soft x) (R : List UInt8)
include hx
end
end Go.Proofs.YtcallkljcjimiaaGreatDoor
namespace Go.Proofs.YtcallkljcjimiaaGreatDoor
def varsOf : Nat → List Int → List (List UInt8 × Int)
 | _, [] => []
 | k, n :: r => (95 :: Lib.itoa n, (k : Int)) :: varsOf (k + 1) r
def Fit (seen : List Int) : Prop := ∀ n ∈ seen, 0 ≤ n ∧ n ≤ 9223372036854775807
structure TabOk (o : OpsF) : Prop where
 pre : ∀ n, (o.pre n).1 = 0 ∨ (1 ≤ (o.pre n).1 ∧ (o.pre n).1 ≤ 1200 ∧ (o.pre n).1 - 1 ≤ (o.pre n).2 ∧ (o.pre n).2 ≤ (o.pre n).1)
 inf : ∀ n, (o.inf n).1 = 0 ∨ (1 ≤ (o.inf n).1 ∧ (o.inf n).1 ≤ 1200 ∧ (o.inf n).1 - 1 ≤ (o.inf n).2.1 ∧ (o.inf n).2.1 ≤ (o.inf n).1 ∧ (o.inf n).1 - 1 ≤ (o.inf n).2.2 ∧ (o.inf n).2.2 ≤ (o.inf n).1 ∧ ((o.inf n).2.1 = (o.inf n).1 → (o.inf n).2.2 ≠ (o.inf n).1))
 post : ∀ n, (o.post n).1 = 0 ∨ (1 ≤ (o.post n).1 ∧ (o.post n).1 ≤ 1200 ∧ (o.post n).1 - 1 ≤ (o.post n).2 ∧ (o.post n).2 ≤ (o.post n).1)
 apart : ∀ n, (o.inf n).1 = 0 ∨ (o.post n).1 = 0
 comma : (o.inf [44]).1 = 1000 ∧ (o.post [44]).1 = 0 ∧ (o.pre [44]).1 = 0
 nil : ∀ n, n = [91, 93] ∨ n = [123, 125] → (o.pre n).1 = 0 ∧ (o.inf n).1 = 0 ∧ (o.post n).1 = 0
def AtL (ts : List Tok) (i : Nat) (l : List Lxm) : Prop := ∃ first, ts.drop i = tkL first l ++ [endTok 1]
def RdS.put (s : RdS) (k : Nat) (x : Tm × List Int) (p : Int) : RdS := ⟨s.at' + k, s.wait, s.most, true, x.1, p, varsOf 0 x.2, varsOf 0 x.2, (x.2.length : Int)⟩
structure SeenIs (s : RdS) (seen : List Int) : Prop where
 vars : s.vars = varsOf 0 seen
 names : s.names = varsOf 0 seen
 cnt : s.cnt = (seen.length : Int)
 fit : Fit seen
structure RestOk (o : OpsF) (b : Lxm) (rb : Int) (atm : Bool) : Prop where
 opn : (!b.sp && decide (b.txt.head? = some 40)) = false
 kind : b.kind = 1 ∨ b.kind = 2 ∨ b.kind = 6 ∨ b.kind = 7
 clos : b.kind = 6 → ¬ (b.s = [40] ∨ b.s = [91] ∨ b.s = [123])
 fol : (b.kind = 1 ∨ b.kind = 2 ∨ b.s = [44]) → (0 < (o.inf b.s).1 → rb < (o.inf b.s).1) ∧ (0 < (o.post b.s).1 → rb < (o.post b.s).1)
 atm : atm = true → b.kind = 6 ∨ b.kind = 7
theorem RestOk.opnL {o : OpsF} {b : Lxm} {rb : Int} {a : Bool} (h : RestOk o b rb a) (r : List Lxm) : opnL (b :: r) = false := h.opn
section
variable {o : OpsF} {ts : List Tok}
theorem RdS.eq {s t : RdS} (h1 : s.at' = t.at') (h2 : s.wait = t.wait) (h3 : s.most = t.most) (h4 : s.hv = t.hv) (h5 : s.t = t.t) (h6 : s.pri = t.pri) (h7 : s.vars = t.vars) (h8 : s.names = t.names) (h9 : s.cnt = t.cnt) : s = t := by
 cases s
 cases t
 simp_all
theorem SeenIs.await {s : RdS} {seen : List Int} (h : SeenIs s seen) (k : Nat) (f : WaitF) (m : Int) : SeenIs ((s.go k).await f m) seen := ⟨h.vars, h.names, h.cnt, h.fit⟩
end
section
variable {o : OpsF} {ts : List Tok}
end
end Go.Proofs.YtcallkljcjimiaaGreatDoor
