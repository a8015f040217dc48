import Derived.Test.YtcallkljcjimiaaGreatDoorJG08
import Derived.Test.YtcallkljcjimiaaGreatDoorJW35
import Derived.Deep.LoopGhost
import Derived.Test.YtcallkljcjimiaaGreatDoorProg
import Derived.KernelRfl
import Derived.WalkKit
import Derived.WalkSmall
import Derived.Lib.Hide
import Derived.Laws.AppendOwn
import Derived.Laws.MakeOwn
import Derived.Deep.OwnRows
import Derived.Laws.AppendOwnNone
import Derived.Deep.AppendLies
import Derived.Deep.RegionLaw
import Derived.WalkSpells
import Derived.BigQuiet
import Derived.Deep.QuietTactic
import Derived.StillTailTactics
import Derived.IntWalk
import Derived.Maps.Keyed
import Derived.StringKeys
import Derived.Deep.RegionHeld3
import Derived.Laws.OwnMore
import Derived.LoopTactic
import Derived.Laws.IdiomStrings
import Derived.Laws.BytesArg
import Derived.Lib.ItoaMem
import Derived.Lib.ItoaNum
import Derived.Shelf.Small.Strs
import Derived.Shelf.Small.Wraps
import Derived.Shelf.LaysM
import Derived.Shelf.Strings.Fields
import Derived.Deep.Cut
import Derived.Deep.CutRange
import Derived.Deep.DeepCutAuto
import Derived.Deep.DrawnRows
import Derived.Defers
import Derived.Recover
import Derived.Laws.DeepStrings4
import Derived.Shelf.Strings.Search1
import Derived.Shelf.Strings.Search2
import Derived.Shelf.Strings.Search3
import Derived.Shelf.Strings.Count
import Derived.Shelf.Strings.Shaped
import Derived.Shelf.Strings.Prefix
import Derived.Lib.Index
import Derived.Laws.EntriesVeiled
import Derived.LoopN
import Derived.Shelf.Strconv.Itoa4
import Derived.Lib.AppendStr
import Derived.Laws.CopyRow
namespace Go.Proofs.YtcallkljcjimiaaGreatDoor
open Go.RowKit Go.Maps
set_option maxRecDepth 100000
def encPart (p : PartT) : List Value := [.int .i64 p.k, .int .i64 p.n, .string ⟨p.s.toArray⟩, .int .u8 (p.a : Int)]
structure PartsAt (w : World) (A : Option Addr) (l : List PartT) : Prop where
 at' : ∀ (i : Nat) (p : PartT), l[i]? = some p → ∃ b off, A = some ⟨b, off, none⟩ ∧ b < w.heap.size ∧ ∀ (j : Nat) u, (encPart p)[j]? = some u → w.cell? ⟨b, off + i * 4 + j, none⟩ = some u
 ok : ∀ p ∈ l, p.s.length ≤ maxLen ∧ p.a < 256
 len : l.length ≤ 1000000000
theorem PartsAt.later {w w' : World} {A : Option Addr} {l : List PartT} (h : PartsAt w A l) (hb : Below w.heap.size w w') : PartsAt w' A l :=
 ⟨fun i p hp => by
  obtain ⟨b, off, h1, h2, h3⟩ := h.at' i p hp
  exact ⟨b, off, h1, Nat.lt_of_lt_of_le h2 hb.size, fun j u hu => (hb.cell (p := ⟨b, off + i * 4 + j, none⟩) h2).trans (h3 j u hu)⟩, h.ok, h.len⟩
theorem PartsAt.drop {w : World} {A : Option Addr} {l : List PartT} {c : Nat} (h : PartsAt w A l) (k : Nat) (hk : 0 < k) (hl : k ≤ l.length) (hc : l.length ≤ c) :
    ∃ A2 c2, sliced A k l.length c 4 = .slice A2 (l.drop k).length c2 ∧ (l.drop k).length ≤ c2 ∧ PartsAt w A2 (l.drop k) := by
 unfold sliced
 refine ⟨_, _, by rw [List.length_drop], by rw [List.length_drop]; omega, ⟨fun i p hp => ?_, fun p hp => h.ok p (List.mem_of_mem_drop hp), by rw [List.length_drop]; have := h.len; omega⟩⟩
 rw [List.getElem?_drop] at hp
 obtain ⟨b, off, h1, h2, h3⟩ := h.at' (k + i) p hp
 have hlt := (List.getElem?_eq_some_iff.1 hp).1
 refine ⟨b, off + k * 4, ?_, h2, fun j u hu => ?_⟩
 ·rw [if_neg (by omega), h1]
  show some (Addr.add ⟨b, off, none⟩ (k * 4)) = _
  unfold Addr.add
  rw [if_neg (by omega)]
 ·have := h3 j u hu
  rwa [show off + (k + i) * 4 + j = off + k * 4 + i * 4 + j by omega] at this
def NumOk (l : List PartT) : Prop := ∀ p ∈ l, -9223372036854775808 ≤ p.n ∧ p.n ≤ 9223372036854775807
theorem NumOk.drop {l : List PartT} (h : NumOk l) (k : Nat) : NumOk (l.drop k) := fun p hp => h p (List.mem_of_mem_drop hp)
def PartsIn (u : World) (A : Option Addr) (n c : Nat) : Prop := n ≤ 60 → ∃ l : List PartT, l.length = n ∧ n ≤ c ∧ PartsAt u A l ∧ NumOk l
theorem PartsIn.later {u u' : World} {A : Option Addr} {n c : Nat} (h : PartsIn u A n c) (hb : Below u.heap.size u u') : PartsIn u' A n c := fun hn => by
 obtain ⟨l, h1, h2, h3, h4⟩ := h hn
 exact ⟨l, h1, h2, h3.later hb, h4⟩
theorem put_good {es : List (OpK × OpV)} {way : Int} {t : Tm} (hw : way = 0 ∨ way = 1 ∨ way = 2) (h : checkT t = 0) : putF es way t = (wrT es way t 1200, 0) := by
 unfold putF
 rw [if_neg (fun e => e hw), if_pos h]
def okB (B k : Nat) : Prop := B ≤ k ∧ k ≠ B + 1
abbrev Loc := Nat × Nat
def encPt (p : Loc) : List Value := [.pointer (some ⟨p.1, p.2, none⟩)]
structure Cells4 (w : World) (p : Loc) (k n : Int) (s : List UInt8) (sl : Value) : Prop where
 c0 : w.cell? ⟨p.1, p.2, none⟩ = some (.int .i64 k)
 c1 : w.cell? ⟨p.1, p.2 + 1, none⟩ = some (.int .i64 n)
 c2 : w.cell? ⟨p.1, p.2 + 2, none⟩ = some (.string ⟨s.toArray⟩)
 c3 : w.cell? ⟨p.1, p.2 + 3, none⟩ = some sl
theorem Cells4.keep {w w' : World} {p : Loc} {k n : Int} {s : List UInt8} {sl : Value} (h : Cells4 w p k n s sl) (hb : w'.heap[p.1]? = w.heap[p.1]?) : Cells4 w' p k n s sl :=
 ⟨(World.cell?_of_block (w := w) (a := ⟨p.1, p.2, none⟩) hb).trans h.c0, (World.cell?_of_block (w := w) (a := ⟨p.1, p.2 + 1, none⟩) hb).trans h.c1, (World.cell?_of_block (w := w) (a := ⟨p.1, p.2 + 2, none⟩) hb).trans h.c2, (World.cell?_of_block (w := w) (a := ⟨p.1, p.2 + 3, none⟩) hb).trans h.c3⟩
def DoneAt (w : World) (Dn : List (Loc × Tm)) (Pd : List (Loc × Tm × Tm)) (p : Loc) (T : Tm) : Prop :=
 T.s.length ≤ maxLen ∧ ∃ sl, Cells4 w p T.k T.n T.s sl ∧ ((T.args = [] ∧ sl = .slice none 0 0) ∨
  ∃ g c, sl = .slice (some ⟨g, 0, none⟩) T.args.length c ∧ ∀ i Ti, T.args[i]? = some Ti → ((g, i * 4), Ti) ∈ Dn ∨ ∃ t, ((g, i * 4), t, Ti) ∈ Pd)
structure RenAt (w : World) (B B0 : Nat) (Dn : List (Loc × Tm)) (Pd : List (Loc × Tm × Tm)) : Prop where
 nd : (Dn.map (·.1) ++ Pd.map (·.1)).Nodup
 loc : ∀ p, p ∈ Dn.map (·.1) ++ Pd.map (·.1) → okB B p.1 ∧ TyB w 28 p.1 ∧ p.2 % 4 = 0
 dn : ∀ p T, (p, T) ∈ Dn → DoneAt w Dn Pd p T
 pd : ∀ p t T, (p, t, T) ∈ Pd → ∃ x : TV, Cells4 w p x.k x.n x.s (.slice x.A x.len x.cap) ∧ TermAt w B0 x t
 low : B0 ≤ B
section
variable {w w' : World} {B B0 : Nat} {Dn : List (Loc × Tm)} {Pd : List (Loc × Tm × Tm)}
theorem RenAt.keep (h : RenAt w B B0 Dn Pd) (hb : ∀ k, (k < B0 ∨ TyB w 28 k) → w'.heap[k]? = w.heap[k]?) : RenAt w' B B0 Dn Pd := by
 have hl : ∀ p, p ∈ Dn.map (·.1) ++ Pd.map (·.1) → w'.heap[p.1]? = w.heap[p.1]? := fun p hp => hb _ (.inr (h.loc p hp).2.1)
 refine ⟨h.nd, fun p hp => ⟨(h.loc p hp).1, (h.loc p hp).2.1.keep (hl p hp), (h.loc p hp).2.2⟩, fun p T hp => ?_, fun p t T hp => ?_, h.low⟩
 ·obtain ⟨h0, sl, h1, h2⟩ := h.dn p T hp
  exact ⟨h0, sl, h1.keep (hl p (List.mem_append_left _ (List.mem_map_of_mem hp))), h2⟩
 ·obtain ⟨x, h1, h2⟩ := h.pd p t T hp
  exact ⟨x, h1.keep (hl p (List.mem_append_right _ (List.mem_map_of_mem hp))), h2.keep (Nat.le_refl _) fun k hk => hb k (.inl hk)⟩
theorem RenAt.later (h : RenAt w B B0 Dn Pd) (hB : B0 ≤ w.heap.size) (hb : Below w.heap.size w w') : RenAt w' B B0 Dn Pd := h.keep fun k hk => hb.block k (by rcases hk with hk | hk; omega; exact hk.lt)
theorem Cells4.other {p q : Loc} {k n : Int} {s : List UInt8} {sl : Value} (h : Cells4 w q k n s sl) (hp : p.2 % 4 = 0) (hq : q.2 % 4 = 0) (hne : q ≠ p) (j : Nat) (hj : j < 4) (v : Value) : Cells4 (w.setCell ⟨p.1, p.2 + j, none⟩ v) q k n s sl := by
 have ho : ∀ i, i < 4 → (w.setCell ⟨p.1, p.2 + j, none⟩ v).cell? ⟨q.1, q.2 + i, none⟩ = w.cell? ⟨q.1, q.2 + i, none⟩ := fun i hi => World.cell?_setCell_other _ _ _ _ (by
  intro e
  injection e with e1 e2
  exact hne (Prod.ext (by first | exact e1 | exact e1.symm) (by omega)))
 exact ⟨(ho 0 (by omega)).trans h.c0, (ho 1 (by omega)).trans h.c1, (ho 2 (by omega)).trans h.c2, (ho 3 (by omega)).trans h.c3⟩
structure StepW (w w' : World) (B0 : Nat) (p : Loc) : Prop where
 other : ∀ (q : Loc) k n s sl, q ≠ p → q.2 % 4 = 0 → TyB w 28 q.1 → Cells4 w q k n s sl → Cells4 w' q k n s sl
 ty : ∀ k, TyB w 28 k → TyB w' 28 k
 low : ∀ k, k < B0 → w'.heap[k]? = w.heap[k]?
theorem RenAt.head {p : Loc} {t T : Tm} (h : RenAt w B B0 Dn ((p, t, T) :: Pd)) : p ∉ Dn.map (·.1) ∧ p ∉ Pd.map (·.1) ∧ (Dn.map (·.1) ++ Pd.map (·.1)).Nodup := by
 have h1 := h.nd
 rw [List.map_cons] at h1
 have h2 := (List.perm_middle (a := p) (l₁ := Dn.map (·.1)) (l₂ := Pd.map (·.1))).nodup_iff.1 h1
 rw [List.nodup_cons] at h2
 exact ⟨fun e => h2.1 (List.mem_append_left _ e), fun e => h2.1 (List.mem_append_right _ e), h2.2⟩
theorem RenAt.step {p : Loc} {t T : Tm} (h : RenAt w B B0 Dn ((p, t, T) :: Pd)) (hs : StepW w w' B0 p) (g c : Nat) (sl : Value) (hT : T.s.length ≤ maxLen) (hc : Cells4 w' p T.k T.n T.s sl)
    (hsl : (T.args = [] ∧ sl = .slice none 0 0) ∨ sl = .slice (some ⟨g, 0, none⟩) T.args.length c)
    (hg : T.args ≠ [] → okB B g ∧ TyB w' 28 g ∧ ∀ q, TyB w 28 q → q ≠ g)
    (hch : ∀ i, i < T.args.length → ∃ x : TV, Cells4 w' (g, i * 4) x.k x.n x.s (.slice x.A x.len x.cap) ∧ TermAt w' B0 x (t.args.getD i noTm)) :
    RenAt w' B B0 ((p, T) :: Dn) ((List.range T.args.length).map (fun i => ((g, i * 4), t.args.getD i noTm, T.args.getD i noTm)) ++ Pd) := by
 obtain ⟨n1, n2, n3⟩ := h.head
 have hp := h.loc p (List.mem_append_right _ (by simp))
 have hloc : ∀ q, q ∈ Dn.map (·.1) ++ Pd.map (·.1) → okB B q.1 ∧ TyB w 28 q.1 ∧ q.2 % 4 = 0 := fun q hq => h.loc q (by
  rcases List.mem_append.1 hq with e | e
  ·exact List.mem_append_left _ e
  ·exact List.mem_append_right _ (List.mem_cons_of_mem _ e))
 have hne : ∀ q, q ∈ Dn.map (·.1) ++ Pd.map (·.1) → q ≠ p := fun q hq e => by
  subst e
  rcases List.mem_append.1 hq with e | e
  ·exact n1 e
  ·exact n2 e
 have hmap : ((List.range T.args.length).map (fun i => (((g, i * 4), t.args.getD i noTm, T.args.getD i noTm) : Loc × Tm × Tm))).map (·.1) = (List.range T.args.length).map fun i => ((g, i * 4) : Loc) := by
  rw [List.map_map]
  rfl
 have hin : ∀ q, q ∈ (List.range T.args.length).map (fun i => ((g, i * 4) : Loc)) → q.1 = g ∧ q.2 % 4 = 0 ∧ T.args ≠ [] := fun q hq => by
  obtain ⟨i, hi, rfl⟩ := List.mem_map.1 hq
  have := List.mem_range.1 hi
  exact ⟨rfl, by show i * 4 % 4 = 0; omega, fun e => by rw [e] at this; simp at this⟩
 refine ⟨?_, ?_, ?_, ?_, h.low⟩
 ·rw [List.map_cons, List.map_append, hmap, List.cons_append, List.nodup_cons]
  have hch2 : ((List.range T.args.length).map fun i => ((g, i * 4) : Loc)).Nodup := by
   refine List.pairwise_map.2 (List.nodup_range.imp fun hij e => hij ?_)
   have := congrArg Prod.snd e
   simp only at this
   omega
  refine ⟨fun e => ?_, ?_⟩
  ·rcases List.mem_append.1 e with e | e
   ·exact n1 e
   ·rcases List.mem_append.1 e with e | e
    ·obtain ⟨e1, -, e3⟩ := hin p e
     exact (hg e3).2.2 p.1 hp.2.1 e1
    ·exact n2 e
  ·rw [List.nodup_append] at n3 ⊢
   refine ⟨n3.1, ?_, ?_⟩
   ·rw [List.nodup_append]
    refine ⟨hch2, n3.2.1, fun a ha b hb e => ?_⟩
    subst e
    obtain ⟨e1, -, e3⟩ := hin a ha
    exact (hg e3).2.2 a.1 (hloc a (List.mem_append_right _ hb)).2.1 e1
   ·intro a ha b hb e
    subst e
    rcases List.mem_append.1 hb with e | e
    ·obtain ⟨e1, -, e3⟩ := hin a e
     exact (hg e3).2.2 a.1 (hloc a (List.mem_append_left _ ha)).2.1 e1
    ·exact n3.2.2 a ha a e rfl
 ·intro q hq
  rw [List.map_cons, List.map_append, hmap, List.cons_append] at hq
  rcases List.mem_cons.1 hq with rfl | hq
  ·exact ⟨hp.1, hs.ty _ hp.2.1, hp.2.2⟩
  ·rcases List.mem_append.1 hq with e | e
   ·have := hloc q (List.mem_append_left _ e)
    exact ⟨this.1, hs.ty _ this.2.1, this.2.2⟩
   ·rcases List.mem_append.1 e with e | e
    ·obtain ⟨e1, e2, e3⟩ := hin q e
     exact ⟨by rw [e1]; exact (hg e3).1, by rw [e1]; exact (hg e3).2.1, e2⟩
    ·have := hloc q (List.mem_append_right _ e)
     exact ⟨this.1, hs.ty _ this.2.1, this.2.2⟩
 ·intro q Tq hq
  rcases List.mem_cons.1 hq with e | hq
  ·injection e with e1 e2
   subst e1 e2
   refine ⟨hT, sl, hc, ?_⟩
   rcases hsl with e | e
   ·exact .inl e
   ·refine .inr ⟨g, c, e, fun i Ti hi => .inr ⟨t.args.getD i noTm, List.mem_append_left _ (List.mem_map.2 ⟨i, List.mem_range.2 (List.getElem?_eq_some_iff.1 hi).1, ?_⟩)⟩⟩
    rw [show Tq.args.getD i noTm = Ti by rw [List.getD_eq_getElem?_getD, hi]; rfl]
  ·have hql := hloc q (List.mem_append_left _ (List.mem_map_of_mem hq))
   obtain ⟨h0, sq, h1, h2⟩ := h.dn q Tq hq
   refine ⟨h0, sq, hs.other q _ _ _ _ (hne q (List.mem_append_left _ (List.mem_map_of_mem hq))) hql.2.2 hql.2.1 h1, ?_⟩
   rcases h2 with h2 | ⟨g', c', h2, h3⟩
   ·exact .inl h2
   ·refine .inr ⟨g', c', h2, fun i Ti hi => ?_⟩
    rcases h3 i Ti hi with h4 | ⟨t', h4⟩
    ·exact .inl (List.mem_cons_of_mem _ h4)
    ·rcases List.mem_cons.1 h4 with e | h4
     ·injection e with e1 e2
      injection e2 with e2 e3
      exact .inl (by rw [e1, e3]; exact List.mem_cons_self)
     ·exact .inr ⟨t', List.mem_append_right _ h4⟩
 ·intro q t' T' hq
  rcases List.mem_append.1 hq with e | e
  ·obtain ⟨i, hi, e⟩ := List.mem_map.1 e
   injection e with e1 e2
   injection e2 with e2 e3
   subst e1 e2 e3
   exact hch i (List.mem_range.1 hi)
  ·obtain ⟨x, h1, h2⟩ := h.pd q t' T' (List.mem_cons_of_mem _ e)
   have hql := hloc q (List.mem_append_right _ (List.mem_map_of_mem e))
   exact ⟨x, hs.other q _ _ _ _ (hne q (List.mem_append_right _ (List.mem_map_of_mem e))) hql.2.2 hql.2.1 h1, h2.keep (Nat.le_refl _) hs.low⟩
end
end Go.Proofs.YtcallkljcjimiaaGreatDoor
