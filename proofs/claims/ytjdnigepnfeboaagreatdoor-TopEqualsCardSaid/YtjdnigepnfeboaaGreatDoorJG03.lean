import Derived.Test.YtjdnigepnfeboaaGreatDoorJG01
import Derived.Test.YtjdnigepnfeboaaGreatDoorJG02
import Derived.DeepKeys4
namespace Go.Proofs.YtjdnigepnfeboaaGreatDoor
open Go.RowKit Go.Maps
open Go.MapKept (Stamped)
section
variable {κ ν : Type} [DecidableEq κ]
def mget (l : List (κ × ν)) (k : κ) : Option ν := (l.find? (fun x => decide (x.1 = k))).map (·.2)
def mput (l : List (κ × ν)) (k : κ) (v : ν) : List (κ × ν) :=
 if (mget l k).isSome then l.map (fun x => if x.1 = k then (k, v) else x) else l ++ [(k, v)]
def mdel (l : List (κ × ν)) (k : κ) : List (κ × ν) := l.filter (fun x => decide (x.1 ≠ k))
theorem mget_none {l : List (κ × ν)} {k : κ} (h : ∀ x ∈ l, x.1 ≠ k) : mget l k = none := by
 unfold mget
 rw [List.find?_eq_none.2]
 ·rfl
 ·intro x hx; simpa using h x hx
theorem mget_some_of {l : List (κ × ν)} {k : κ} {v : ν} (hd : (l.map (·.1)).Nodup) (h : (k, v) ∈ l) : mget l k = some v := by
 induction l with
 | nil => cases h
 | cons y r ih =>
  simp only [List.map_cons, List.nodup_cons] at hd
  rcases List.mem_cons.1 h with rfl | h
  ·simp [mget]
  ·have : y.1 ≠ k := fun e => hd.1 (by rw [e]; exact List.mem_map.2 ⟨_, h, rfl⟩)
   have := ih hd.2 h
   simp only [mget] at this ⊢
   simp [*]
theorem mget_mem {l : List (κ × ν)} {k : κ} {v : ν} (h : mget l k = some v) : (k, v) ∈ l := by
 unfold mget at h
 obtain ⟨x, hx, rfl⟩ := Option.map_eq_some_iff.1 h
 have h1 := List.mem_of_find?_eq_some hx
 have h2 := List.find?_some hx
 simp at h2
 subst h2
 exact h1
theorem mget_eq_none {l : List (κ × ν)} {k : κ} (h : mget l k = none) : ∀ x ∈ l, x.1 ≠ k := by
 intro x hx e
 unfold mget at h
 simp only [Option.map_eq_none_iff, List.find?_eq_none] at h
 exact h x hx (by simpa using e)
end
structure KE (P : Program) (kt : TypeId) {κ : Type} (ek : κ → Value) (okk : κ → Prop) : Prop where
 keyed : Keyed P kt
 lit : ∀ k, okk k → ∃ l, keyOf P kt (ek k) = some l
 inj : ∀ a b, ek a = ek b → a = b
structure MapAt (w : World) (b : Nat) {κ ν : Type} (ek : κ → Value) (ev : ν → Value) (l : List (κ × ν)) : Prop where
 blk : ∃ es clock, w.heap[b]? = some (.map es clock) ∧ es.toList.map (fun e => (e.key, e.val)) = l.map (fun x => (ek x.1, ev x.2)) ∧ Stamped es clock
 nodup : (l.map (·.1)).Nodup
section
variable {P : Program} {w w' : World} {kt et t ty : TypeId} {κ ν : Type} {ek : κ → Value} {ev : ν → Value} {okk : κ → Prop} {l : List (κ × ν)} {b : Nat}
theorem MapAt.lt (h : MapAt w b ek ev l) : b < w.heap.size := by
 obtain ⟨es, clock, hb, _⟩ := h.blk
 exact (Array.getElem?_eq_some_iff.1 hb).1
theorem MapAt.keep (h : MapAt w b ek ev l) (hb : w'.heap[b]? = w.heap[b]?) : MapAt w' b ek ev l :=
 ⟨by rw [hb]; exact h.blk, h.nodup⟩
theorem MapAt.alloc (h : MapAt w b ek ev l) (o : Obj) : MapAt (w.alloc o) b ek ev l := h.keep (Below.heap_alloc w o b h.lt)
theorem MapAt.drew (h : MapAt w b ek ev l) : MapAt w.drew b ek ev l := h.keep rfl
theorem MapAt.below {B : Nat} (h : MapAt w b ek ev l) (hb : Below B w w') (hB : b < B) : MapAt w' b ek ev l := h.keep (hb.block b hB)
theorem MapAt.setCell (h : MapAt w b ek ev l) {p : Addr} (hp : b ≠ p.block) (u : Value) : MapAt (w.setCell p u) b ek ev l := h.keep (Below.heap_setCell w p u b hp)
theorem MapAt.made (w : World) : MapAt (w.alloc (.map #[] 0)) w.heap.size ek ev ([] : List (κ × ν)) :=
 ⟨⟨#[], 0, heap_alloc_new w _, rfl, MapKept.stamped_empty 0⟩, by simp⟩
theorem entry_at {es : Array MapEntry} (h : es.toList.map (fun e => (e.key, e.val)) = l.map (fun x => (ek x.1, ev x.2))) {j : Nat} {e : MapEntry} (hj : es.toList[j]? = some e) :
    ∃ x, l[j]? = some x ∧ e.key = ek x.1 ∧ e.val = ev x.2 := by
 have := congrArg (fun z => z[j]?) h
 simp only [List.getElem?_map, hj, Option.map_some] at this
 cases hx : l[j]? with
 | none => rw [hx] at this; cases this
 | some x =>
  rw [hx] at this
  simp only [Option.map_some, Option.some.injEq, Prod.mk.injEq] at this
  exact ⟨x, rfl, this.1, this.2⟩
theorem MapAt.len (ht : P.underlying t = some (.map kt et)) (h : MapAt w b ek ev l) : (Builtin.len_ #[t] ty #[.map (some b)]).run P w = .ok (goInt l.length) w := by
 obtain ⟨es, clock, hb, hl, hs⟩ := h.blk
 have hg := MapKept.run_getObj_map (P := P) hb
 have e : es.size = l.length := by simpa using congrArg List.length hl
 simp [Builtin.len_, run_underlying ht, hg, e, Result.andThen]
theorem grownBy_setObj (w : World) (b : Nat) (o : Obj) : w.grownBy { w with heap := w.heap.setIfInBounds b o } (some b) :=
 ⟨rfl, rfl, rfl, by simp, fun k _ hk => by
  have : b ≠ k := fun e => hk (by rw [e])
  simp [this]⟩
variable [DecidableEq κ]
theorem MapAt.found (K : KE P kt ek okk) (hok : ∀ x ∈ l, okk x.1) {es : Array MapEntry} (hl : es.toList.map (fun e => (e.key, e.val)) = l.map (fun x => (ek x.1, ev x.2))) (hd : (l.map (·.1)).Nodup) (w : World) {k : κ} (hk : okk k) :
    ((Instr.findKey kt (ek k) es.toList).run P w = .ok none w ∧ (∀ e ∈ es.toList, e.key ≠ ek k) ∧ mget l k = none) ∨
    ∃ j e x, (Instr.findKey kt (ek k) es.toList).run P w = .ok (some (j, e.val)) w ∧ es.toList[j]? = some e ∧ e.key = ek k ∧ l[j]? = some x ∧ x.1 = k ∧ e.val = ev x.2 ∧ mget l k = some x.2 := by
 obtain ⟨lk, hlk⟩ := K.lit k hk
 have hkeys : ∀ e ∈ es.toList, ∃ l, keyOf P kt e.key = some l := by
  intro e he
  obtain ⟨j, hj⟩ := List.getElem?_of_mem he
  obtain ⟨x, hx, h1, _⟩ := entry_at hl hj
  rw [h1]
  exact K.lit _ (hok _ (List.mem_of_getElem? hx))
 rcases K.keyed.find w hlk es.toList hkeys with ⟨h1, h2⟩ | ⟨j, e, h1, h2, h3⟩
 ·refine .inl ⟨h1, h2, mget_none ?_⟩
  intro x hx e
  obtain ⟨j, hj⟩ := List.getElem?_of_mem hx
  have := congrArg (fun z => z[j]?) hl
  simp only [List.getElem?_map, hj, Option.map_some] at this
  cases he : es.toList[j]? with
  | none => rw [he] at this; cases this
  | some y =>
   rw [he] at this
   simp only [Option.map_some, Option.some.injEq, Prod.mk.injEq] at this
   exact h2 y (List.mem_of_getElem? he) (by rw [this.1, e])
 ·obtain ⟨x, hx, h4, h5⟩ := entry_at hl h2
  have hxk : x.1 = k := K.inj _ _ (h4.symm.trans h3)
  refine .inr ⟨j, e, x, h1, h2, h3, hx, hxk, h5, mget_some_of hd ?_⟩
  rw [← hxk]
  exact List.mem_of_getElem? hx
theorem MapAt.lookup (K : KE P kt ek okk) (ht : P.underlying t = some (.map kt et)) {z : Value} (hz : ∀ u : World, (zeroValue et).run P u = .ok z u) (h : MapAt w b ek ev l) (hok : ∀ x ∈ l, okk x.1) {k : κ} (hk : okk k) (c : Bool) :
    (Instr.lookup t (.map (some b)) (ek k) c).run P w = .ok (if c then .tuple #[((mget l k).map ev).getD z, .bool (mget l k).isSome] else ((mget l k).map ev).getD z) w := by
 obtain ⟨es, clock, hb, hl, hs⟩ := h.blk
 obtain ⟨lk, hlk⟩ := K.lit k hk
 have hg := MapKept.run_getObj_map (P := P) hb
 have hc := K.keyed.check w es.isEmpty hlk
 rcases MapAt.found K hok hl h.nodup w hk with ⟨h1, _, h3⟩ | ⟨j, e, x, h1, _, _, _, _, h5, h6⟩
 ·cases c <;> simp [Instr.lookup, run_underlying ht, hg, hc, h1, hz, h3, Result.andThen]
 ·cases c <;> simp [Instr.lookup, run_underlying ht, hg, hc, h1, h5, h6, Result.andThen]
theorem mput_keys (l : List (κ × ν)) (k : κ) (v : ν) : (mput l k v).map (·.1) = if (mget l k).isSome then l.map (·.1) else l.map (·.1) ++ [k] := by
 unfold mput
 split
 ·rw [List.map_map]
  refine List.map_congr_left fun x _ => ?_
  simp only [Function.comp_apply]
  split
  ·rename_i h; exact h.symm
  ·rfl
 ·simp
theorem mput_nodup {l : List (κ × ν)} (hd : (l.map (·.1)).Nodup) (k : κ) (v : ν) : ((mput l k v).map (·.1)).Nodup := by
 rw [mput_keys]
 split
 ·exact hd
 ·rename_i h
  have hn : mget l k = none := by simpa using h
  refine List.nodup_append.2 ⟨hd, by simp, ?_⟩
  intro a ha c hc
  simp only [List.mem_singleton] at hc
  subst hc
  obtain ⟨x, hx, rfl⟩ := List.mem_map.1 ha
  exact mget_eq_none hn x hx
theorem MapAt.update (K : KE P kt ek okk) (ht : P.underlying t = some (.map kt et)) (h : MapAt w b ek ev l) (hok : ∀ x ∈ l, okk x.1) {k : κ} (hk : okk k) (v : ν) :
    ∃ w', (Instr.mapUpdate t (.map (some b)) (ek k) (ev v)).run P w = .ok () w' ∧ MapAt w' b ek ev (mput l k v) ∧ w.grownBy w' (some b) ∧ w'.heap.size = w.heap.size := by
 obtain ⟨es, clock, hb, hl, hs⟩ := h.blk
 obtain ⟨lk, hlk⟩ := K.lit k hk
 have hg := MapKept.run_getObj_map (P := P) hb
 have hc := K.keyed.check w false hlk
 have hlt := h.lt
 rcases MapAt.found K hok hl h.nodup w hk with ⟨h1, h2, h3⟩ | ⟨j, e, x, h1, h2, h4, hx, hxk, h5, h6⟩
 ·refine ⟨{ w with heap := w.heap.setIfInBounds b (.map (es.push { key := ek k, val := ev v, born := clock }) (clock + 1)) }, ?_, ⟨⟨es.push { key := ek k, val := ev v, born := clock }, clock + 1, by simp [hlt], ?_, MapKept.stamped_push hs (fun x hx => h2 x hx)⟩, mput_nodup h.nodup k v⟩, grownBy_setObj _ _ _, by simp⟩
  ·simp [Instr.mapUpdate, run_underlying ht, hg, hc, h1, MapKept.run_setObj_map _ hb, Result.andThen]
  ·simp [mput, h3, hl]
 ·have hst := K.keyed.stays w hlk
  have hes : es[j]? = some e := by simpa using h2
  refine ⟨{ w with heap := w.heap.setIfInBounds b (.map (es.modify j fun e => { e with key := ek k, val := ev v }) clock) }, ?_, ⟨⟨es.modify j fun e => { e with key := ek k, val := ev v }, clock, by simp [hlt], ?_, MapKept.stamped_modify hs j _ (fun _ _ => rfl) (fun e' _ he' => ?_)⟩, mput_nodup h.nodup k v⟩, grownBy_setObj _ _ _, by simp⟩
  ·simp [Instr.mapUpdate, run_underlying ht, hg, hc, h1, hes, h4, hst, MapKept.run_setObj_map _ hb, Result.andThen]
  ·have hu : mput l k v = l.modify j (fun _ => (k, v)) := by
    unfold mput
    rw [if_pos (by simp [h6])]
    apply List.ext_getElem?
    intro i
    rw [List.getElem?_modify, List.getElem?_map]
    by_cases hij : j = i
    ·subst hij; simp [hx, hxk]
    ·cases hi : l[i]? with
     | none => rfl
     | some y =>
      have hne : y.1 ≠ k := by
       intro e1
       have hnd := h.nodup
       unfold List.Nodup at hnd
       rw [List.pairwise_iff_getElem] at hnd
       obtain ⟨hil, hiy⟩ := List.getElem?_eq_some_iff.1 hi
       obtain ⟨hjl, hjx⟩ := List.getElem?_eq_some_iff.1 hx
       rcases Nat.lt_or_gt_of_ne hij with hlt' | hlt'
       ·exact hnd j i (by simpa using hjl) (by simpa using hil) hlt' (by simp [hiy, hjx, e1, hxk])
       ·exact hnd i j (by simpa using hil) (by simpa using hjl) hlt' (by simp [hiy, hjx, e1, hxk])
      simp [hne, hij]
   rw [hu]
   simp only [Array.toList_modify]
   apply List.ext_getElem?
   intro i
   have hli := congrArg (fun z => z[i]?) hl
   simp only [List.getElem?_map] at hli
   simp only [List.getElem?_map, List.getElem?_modify]
   by_cases hij : j = i
   ·subst hij
    simp [hes, hx]
   ·cases hi : es.toList[i]? <;> cases hi' : l[i]? <;> rw [hi, hi'] at hli <;> simp_all
  ·rw [hes] at he'
   cases he'
   exact h4.symm
theorem MapKept_eraseIdx_map {α β : Type} (f : α → β) (l : List α) (i : Nat) : (l.eraseIdx i).map f = (l.map f).eraseIdx i := by
 induction l generalizing i with
 | nil => rfl
 | cons a r ih => cases i with
  | zero => rfl
  | succ i => simp [ih]
theorem filter_ne_of_nodup {l : List (κ × ν)} (hd : (l.map (·.1)).Nodup) {j : Nat} {x : κ × ν} (hx : l[j]? = some x) : mdel l x.1 = l.eraseIdx j := by
 induction l generalizing j with
 | nil => simp at hx
 | cons y r ih =>
  simp only [List.map_cons, List.nodup_cons] at hd
  cases j with
  | zero =>
   simp at hx
   subst hx
   have : ∀ z ∈ r, z.1 ≠ y.1 := fun z hz e => hd.1 (by rw [← e]; exact List.mem_map.2 ⟨_, hz, rfl⟩)
   unfold mdel
   rw [List.filter_cons_of_neg (by simp)]
   rw [List.filter_eq_self.2 (by intro z hz; simpa using this z hz)]
   rfl
  | succ j =>
   simp at hx
   have hne : y.1 ≠ x.1 := fun e => hd.1 (by rw [e]; exact List.mem_map.2 ⟨_, List.mem_of_getElem? hx, rfl⟩)
   have := ih hd.2 hx
   unfold mdel at this ⊢
   rw [List.filter_cons_of_pos (by simpa using hne), this]
   rfl
end
end Go.Proofs.YtjdnigepnfeboaaGreatDoor
namespace Go.Proofs.YtjdnigepnfeboaaGreatDoor
open Go.RowKit Go.Maps
def TyB (u : World) (t : TypeId) (b : Nat) : Prop := ∃ cs, u.heap[b]? = some (.cells cs t (0, 0))
theorem TyB.ne {u : World} {t t' : TypeId} {b b' : Nat} (h : TyB u t b) (h' : TyB u t' b') (hn : t ≠ t') : b ≠ b' := by
 rintro rfl
 obtain ⟨c, h⟩ := h
 obtain ⟨c', h'⟩ := h'
 rw [h] at h'
 injection h' with h'
 injection h' with _ h'
 exact hn h'
theorem TyB.keep {u u' : World} {t : TypeId} {b : Nat} (h : TyB u t b) (hb : u'.heap[b]? = u.heap[b]?) : TyB u' t b := by
 obtain ⟨c, h⟩ := h
 exact ⟨c, hb.trans h⟩
theorem TyB.lt {u : World} {t : TypeId} {b : Nat} (h : TyB u t b) : b < u.heap.size := by
 obtain ⟨c, h⟩ := h
 exact (Array.getElem?_eq_some_iff.1 h).1
theorem Row.ty {α : Type} {w : World} {B sz : Nat} {e : TypeId} {enc : α → List Value} {v : Value} {l : List α} (h : Row w B e sz enc v l) {g : Nat} (hg : v.ownBlock = some g) : TyB w e g := by
 rcases h.own.2 with ⟨rfl, _⟩ | ⟨g', cap, cur, rfl, _, hgg, _⟩
 ·cases hg
 ·injection hg with hg
  subst hg
  exact ⟨cur, hgg⟩
theorem MapAt.ne {κ ν : Type} {u : World} {b b' : Nat} {ek : κ → Value} {ev : ν → Value} {l : List (κ × ν)} {t : TypeId} (h : MapAt u b ek ev l) (h' : TyB u t b') : b ≠ b' := by
 rintro rfl
 obtain ⟨es, clock, h1, _⟩ := h.blk
 obtain ⟨c, h2⟩ := h'
 rw [h1] at h2
 cases h2
open Go.RowKit
inductive TermS (w : World) (S : Nat → Prop) : TV → Tm → Prop
 | mk (x : TV) (args : List Tm) (xs : List TV) (h1 : xs.length = x.len) (h2 : args.length = x.len) (h3 : x.s.length ≤ maxLen)
     (hc : ∀ (i : Nat) (y : TV), xs[i]? = some y → ∃ b off, x.A = some ⟨b, off, none⟩ ∧ S b ∧ ∀ (j : Nat) u, (encTV y)[j]? = some u → w.cell? ⟨b, off + i * 4 + j, none⟩ = some u)
     (ht : ∀ (i : Nat) (y : TV) (t : Tm), xs[i]? = some y → args[i]? = some t → TermS w S y t) : TermS w S x (.mk x.k x.n x.s args)
section
variable {w w' : World} {S S' : Nat → Prop} {x : TV} {t : Tm}
theorem TermS.keep (h : TermS w S x t) (hS : ∀ b, S b → S' b) (hb : ∀ b, S b → w'.heap[b]? = w.heap[b]?) : TermS w' S' x t := by
 induction h with
 | mk x args xs h1 h2 h3 hc ht ih =>
  refine .mk x args xs h1 h2 h3 (fun i y hy => ?_) ih
  obtain ⟨b, off, e1, e2, e3⟩ := hc i y hy
  exact ⟨b, off, e1, hS b e2, fun j u hu => (World.cell?_of_block (a := ⟨b, off + i * 4 + j, none⟩) (hb b e2)).trans (e3 j u hu)⟩
theorem TermS.at (h : TermS w S x t) {B : Nat} (hS : ∀ b, S b → b < B) : TermAt w B x t := by
 induction h with
 | mk x args xs h1 h2 h3 hc ht ih =>
  refine .mk x args xs h1 h2 h3 (fun i y hy => ?_) ih
  obtain ⟨b, off, e1, e2, e3⟩ := hc i y hy
  exact ⟨b, off, e1, hS b e2, e3⟩
theorem TermS.leaf (w : World) (S : Nat → Prop) (k n : Int) (s : List UInt8) (A : Option Addr) (c : Nat) (hs : s.length ≤ maxLen) : TermS w S ⟨k, n, s, A, 0, c⟩ (.mk k n s []) :=
 .mk ⟨k, n, s, A, 0, c⟩ [] [] rfl rfl hs (fun i y h => by simp at h) (fun i y t h => by simp at h)
def TermsS (w : World) (S : Nat → Prop) (xs : List TV) (l : List Tm) : Prop := xs.length = l.length ∧ ∀ (i : Nat) (y : TV) (t : Tm), xs[i]? = some y → l[i]? = some t → TermS w S y t
theorem TermsS.nil (w : World) (S : Nat → Prop) : TermsS w S [] [] := ⟨rfl, fun i y t h => by simp at h⟩
theorem TermsS.keep {xs : List TV} {l : List Tm} (h : TermsS w S xs l) (hS : ∀ b, S b → S' b) (hb : ∀ b, S b → w'.heap[b]? = w.heap[b]?) : TermsS w' S' xs l :=
 ⟨h.1, fun i y t h1 h2 => (h.2 i y t h1 h2).keep hS hb⟩
theorem TermsS.snoc {xs : List TV} {l : List Tm} (h : TermsS w S xs l) (hx : TermS w S x t) : TermsS w S (xs ++ [x]) (l ++ [t]) := by
 refine ⟨by rw [List.length_append, List.length_append, h.1]; rfl, fun i y u h1 h2 => ?_⟩
 by_cases hi : i < xs.length
 ·rw [List.getElem?_append_left hi] at h1
  rw [List.getElem?_append_left (by rw [← h.1]; exact hi)] at h2
  exact h.2 i y u h1 h2
 ·have hi2 : i = xs.length := by
   have := (List.getElem?_eq_some_iff.1 h1).1
   simp at this
   omega
  subst hi2
  rw [List.getElem?_append_right (Nat.le_refl _), Nat.sub_self] at h1
  rw [h.1, List.getElem?_append_right (Nat.le_refl _), Nat.sub_self] at h2
  have e1 : x = y := by simpa using h1
  have e2 : t = u := by simpa using h2
  subst e1 e2
  exact hx
theorem TermsS.comp {B : Nat} {v : Value} {xs : List TV} {l : List Tm} {A : Option Addr} {n c : Nat} (h : TermsS w S xs l) (hr : Row w B 27 4 encTV v xs) (hv : v = .slice A n c) (hS : ∀ g, v.ownBlock = some g → S g) (s : List UInt8) (hs : s.length ≤ maxLen) (k m : Int) :
    TermS w S ⟨k, m, s, A, n, c⟩ (.mk k m s l) := by
 subst hv
 have hlen : n = xs.length := hr.len
 refine .mk ⟨k, m, s, A, n, c⟩ l xs hlen.symm (by rw [← h.1, hlen]) hs (fun i y hy => ?_) h.2
 obtain ⟨g, cap, e1, _, _, _, hc⟩ := hr.cells encTV_len (by rintro rfl; cases hy)
 injection e1 with e1 e2 e3
 refine ⟨g, 0, e1, hS g (by rw [e1]; rfl), fun j u hu => ?_⟩
 rw [Nat.zero_add]
 exact (hc i y hy j u hu).1
theorem TermsS.block {xs : List TV} {l : List Tm} {g : Nat} (h : TermsS w S xs l) (hg : w.heap[g]? = some (.cells (xs.flatMap encTV).toArray 27 (0, 0))) (hS : S g) (s : List UInt8) (hs : s.length ≤ maxLen) (k m : Int) (c : Nat) :
    TermS w S ⟨k, m, s, some ⟨g, 0, none⟩, xs.length, c⟩ (.mk k m s l) := by
 refine .mk ⟨k, m, s, some ⟨g, 0, none⟩, xs.length, c⟩ l xs rfl h.1.symm hs (fun i y hy => ⟨g, 0, rfl, hS, fun j u hu => ?_⟩) h.2
 rw [Nat.zero_add, cell_of_row w g (i * 4 + j) _ _ (0, 0) hg]
 have := flatMap_get encTV_len xs i j y u hy hu
 simpa using this
end
end Go.Proofs.YtjdnigepnfeboaaGreatDoor
namespace Go.Proofs.YtjdnigepnfeboaaGreatDoor
open Go.RowKit Go.Maps
def TyInB (B : Nat) (tys : List TypeId) (u : World) (k : Nat) : Prop := B ≤ k ∧ ∃ t ∈ tys, TyB u t k
theorem TyB.same {u : World} {t t' : TypeId} {b : Nat} (h : TyB u t b) (h' : TyB u t' b) : t = t' := Decidable.byContradiction fun e => h.ne h' e rfl
structure TFB (B : Nat) (tys : List TypeId) (u u' : World) : Prop where
 fr : Fr (TyInB B tys u) u u'
section
variable {B : Nat} {tys tys' : List TypeId} {u u' u'' : World}
theorem TFB.refl (tys : List TypeId) (u : World) : TFB B tys u u := ⟨Fr.refl _ _⟩
theorem TFB.size (h : TFB B tys u u') : u.heap.size ≤ u'.heap.size := h.fr.size
theorem TFB.back (h : TFB B tys u u') {k : Nat} (hk : k < u.heap.size) (ht : TyInB B tys u' k) : TyInB B tys u k := by
 refine Classical.byContradiction fun e => e ?_
 obtain ⟨h0, t, h1, cs, h2⟩ := ht
 exact ⟨h0, t, h1, cs, (h.fr.block k hk e).symm.trans h2⟩
theorem TFB.trans (h : TFB B tys u u') (h' : TFB B tys u' u'') : TFB B tys u u'' :=
 ⟨⟨h'.fr.os.trans h.fr.os, h'.fr.tape.trans h.fr.tape, h'.fr.output.trans h.fr.output, Nat.le_trans h.size h'.size, fun k hk hn => (h'.fr.block k (Nat.lt_of_lt_of_le hk h.size) fun e => hn (h.back hk e)).trans (h.fr.block k hk hn)⟩⟩
theorem TFB.mono (h : TFB B tys u u') (hs : ∀ t ∈ tys, t ∈ tys') : TFB B tys' u u' := ⟨h.fr.mono fun _ _ ⟨h0, t, h1, h2⟩ => ⟨h0, t, hs t h1, h2⟩⟩
theorem TFB.of_below (tys : List TypeId) (h : Below u.heap.size u u') : TFB B tys u u' := ⟨Fr.of_below _ h⟩
theorem TFB.later (h : TFB B tys u u') (hb : Below u'.heap.size u' u'') : TFB B tys u u'' := h.trans (.of_below tys hb)
theorem TFB.alloc (h : TFB B tys u u') (o : Obj) : TFB B tys u (u'.alloc o) := ⟨h.fr.alloc o⟩
theorem TFB.drew (h : TFB B tys u u') : TFB B tys u u'.drew := ⟨h.fr.drew⟩
theorem TFB.set (h : TFB B tys u u') {p : Addr} {t : TypeId} (hp : TyB u' t p.block) (ht : t ∈ tys) (hB : B ≤ p.block) (v : Value) : TFB B tys u (u'.setCell p v) := by
 refine ⟨h.fr.setCell ?_ v⟩
 by_cases hl : u.heap.size ≤ p.block
 ·exact .inr hl
 ·exact .inl (h.back (by omega) ⟨hB, t, ht, hp⟩)
theorem TFB.grown {row : Option Nat} (h : TFB B tys u u') (hg : u'.grownBy u'' row) (hr : ∀ g, row = some g → TyInB B tys u' g ∨ u.heap.size ≤ g) : TFB B tys u u'' :=
 ⟨h.fr.grown hg fun g e => by
  rcases hr g e with h1 | h1
  ·by_cases hl : u.heap.size ≤ g
   ·exact .inr hl
   ·exact .inl (h.back (by omega) h1)
  ·exact .inr h1⟩
theorem TFB.block (h : TFB B tys u u') {t : TypeId} {b : Nat} (hb : TyB u t b) (ht : t ∉ tys) : u'.heap[b]? = u.heap[b]? :=
 h.fr.block b hb.lt fun ⟨_, _, h1, h2⟩ => ht (hb.same h2 ▸ h1)
theorem TFB.ty (h : TFB B tys u u') {t : TypeId} {b : Nat} (hb : TyB u t b) (ht : t ∉ tys) : TyB u' t b := hb.keep (h.block hb ht)
theorem TFB.low (h : TFB B tys u u') {B' : Nat} (hB : B' ≤ u.heap.size) (hn : B' ≤ B) : Below B' u u' := h.fr.below hB fun k hk e => by have := e.1; omega
theorem TFB.map {κ ν : Type} {b : Nat} {ek : κ → Value} {ev : ν → Value} {l : List (κ × ν)} (h : TFB B tys u u') (hm : MapAt u b ek ev l) : MapAt u' b ek ev l :=
 hm.keep (h.fr.block b hm.lt fun ⟨_, _, _, h2⟩ => hm.ne h2 rfl)
theorem TFB.row {α : Type} {C sz : Nat} {e : TypeId} {enc : α → List Value} {v : Value} {l : List α} (h : TFB B tys u u') (hr : Row u C e sz enc v l) (he : e ∉ tys) : Row u' C e sz enc v l :=
 hr.keep fun _ hk => h.block (hr.ty hk) he
theorem TFB.term {x : TV} {t : Tm} {S S' : Nat → Prop} (h : TFB B tys u u') (hx : TermS u S x t) (hS : ∀ b, S b → TyB u 27 b) (hS' : ∀ b, S b → TyB u' 27 b → S' b) (ht : 27 ∉ tys) : TermS u' S' x t :=
 hx.keep (fun b hb => hS' b hb (h.ty (hS b hb) ht)) fun b hb => h.block (hS b hb) ht
end
class Base where
 b : Nat
abbrev TyIn [Base] (tys : List TypeId) (u : World) (k : Nat) : Prop := TyInB Base.b tys u k
abbrev TF [Base] (tys : List TypeId) (u u' : World) : Prop := TFB Base.b tys u u'
theorem TF.refl [Base] (tys : List TypeId) (u : World) : TF tys u u := TFB.refl tys u
theorem TF.of_below [Base] {u u' : World} (tys : List TypeId) (h : Below u.heap.size u u') : TF tys u u' := TFB.of_below tys h
end Go.Proofs.YtjdnigepnfeboaaGreatDoor
namespace Go.Proofs.YtjdnigepnfeboaaGreatDoor
structure Sc where
 k : Int
 n : Int
 s : List UInt8
 args : List Nat
 to : Option Nat
inductive Root (cs : List Sc) : Nat → Nat → Prop
 | here {i : Nat} {c : Sc} (h : cs[i]? = some c) (ht : c.to = none) : Root cs i i
 | step {i j r : Nat} {c : Sc} (h : cs[i]? = some c) (ht : c.to = some j) (hr : Root cs j r) : Root cs i r
theorem Root.fn {cs : List Sc} {i j j' : Nat} (h : Root cs i j) (h' : Root cs i j') : j = j' := by
 induction h with
 | here h ht =>
  cases h' with
  | here => rfl
  | step h2 ht2 hr2 =>
   rw [h] at h2
   injection h2 with h2
   subst h2
   rw [ht] at ht2
   cases ht2
 | step h ht hr ih =>
  cases h' with
  | here h2 ht2 =>
   rw [h] at h2
   injection h2 with h2
   subst h2
   rw [ht] at ht2
   cases ht2
  | step h2 ht2 hr2 =>
   rw [h] at h2
   injection h2 with h2
   subst h2
   rw [ht] at ht2
   injection ht2 with ht2
   subst ht2
   exact ih hr2
theorem Root.free {cs : List Sc} {i j : Nat} (h : Root cs i j) : ∃ c, cs[j]? = some c ∧ c.to = none := by
 induction h with
 | here h ht => exact ⟨_, h, ht⟩
 | step h ht hr ih => exact ih
theorem Root.lt {cs : List Sc} {i j : Nat} (h : Root cs i j) : i < cs.length := by
 cases h with
 | here h ht => exact (List.getElem?_eq_some_iff.1 h).1
 | step h ht hr => exact (List.getElem?_eq_some_iff.1 h).1
def putTo (cs : List Sc) (v : Nat) (c : Sc) (t : Option Nat) : List Sc := cs.set v { c with to := t }
theorem putTo_at {cs : List Sc} {v : Nat} {c : Sc} (h : cs[v]? = some c) (t : Option Nat) : (putTo cs v c t)[v]? = some { c with to := t } := by
 unfold putTo
 rw [List.getElem?_set_self (List.getElem?_eq_some_iff.1 h).1]
theorem putTo_ne {cs : List Sc} {v i : Nat} (c : Sc) (t : Option Nat) (h : i ≠ v) : (putTo cs v c t)[i]? = cs[i]? := by
 unfold putTo
 rw [List.getElem?_set_ne (Ne.symm h)]
theorem putTo_len (cs : List Sc) (v : Nat) (c : Sc) (t : Option Nat) : (putTo cs v c t).length = cs.length := List.length_set ..
theorem Root.bind {cs : List Sc} {v t : Nat} {c : Sc} (hv : cs[v]? = some c) (h0 : c.to = none) (ht : Root cs t t) (hne : v ≠ t) {i j : Nat} (h : Root cs i j) : Root (putTo cs v c (some t)) i (if j = v then t else j) := by
 have ht' : Root (putTo cs v c (some t)) t t := by
  obtain ⟨d, h1, h2⟩ := ht.free
  exact .here ((putTo_ne c (some t) (Ne.symm hne)).trans h1) h2
 induction h with
 | here h h1 =>
  rename_i i d
  by_cases e : i = v
  ·subst e
   rw [if_pos rfl]
   exact .step (putTo_at hv _) rfl ht'
  ·rw [if_neg e]
   exact .here ((putTo_ne c (some t) e).trans h) h1
 | step h h1 hr ih =>
  rename_i i k r d
  have e : i ≠ v := fun e => by
   subst e
   rw [hv] at h
   injection h with h
   subst h
   rw [h0] at h1
   cases h1
  exact .step ((putTo_ne c (some t) e).trans h) h1 ih
theorem Root.loose {cs : List Sc} {v : Nat} {c : Sc} (hv : cs[v]? = some c) {i j : Nat} (h : Root cs i j) : ∃ k, Root (putTo cs v c none) i k := by
 induction h with
 | here h h1 =>
  rename_i i d
  by_cases e : i = v
  ·subst e
   exact ⟨_, .here (putTo_at hv _) rfl⟩
  ·exact ⟨_, .here ((putTo_ne c none e).trans h) h1⟩
 | step h h1 hr ih =>
  rename_i i k r d
  by_cases e : i = v
  ·subst e
   exact ⟨_, .here (putTo_at hv _) rfl⟩
  ·obtain ⟨k, hk⟩ := ih
   exact ⟨k, .step ((putTo_ne c none e).trans h) h1 hk⟩
inductive Uni (safe : Bool) : List Sc → List Nat → List (Nat × Nat) → Nat → Bool × Int → List Sc → List Nat → Prop
 | done {cs : List Sc} {bs : List Nat} {w : Nat} : Uni safe cs bs [] w (true, 0) cs bs
 | tired {cs : List Sc} {bs : List Nat} {p : Nat × Nat} {r : List (Nat × Nat)} {w : Nat} (hw : 20000 ≤ w) : Uni safe cs bs (p :: r) w (false, 16) cs bs
 | same {cs cs' : List Sc} {bs bs' : List Nat} {a b j : Nat} {r : List (Nat × Nat)} {w : Nat} {R : Bool × Int} (ha : Root cs a j) (hb : Root cs b j) (hr : Uni safe cs bs r (w + 1) R cs' bs') : Uni safe cs bs ((a, b) :: r) w R cs' bs'
 | bind {cs cs' : List Sc} {bs bs' : List Nat} {a b i j v t : Nat} {x : Sc} {r : List (Nat × Nat)} {w w' : Nat} {R : Bool × Int} (ha : Root cs a i) (hb : Root cs b j) (hij : i ≠ j) (hv : (v = i ∧ t = j) ∨ (v = j ∧ t = i)) (hx : cs[v]? = some x) (hk : x.k = 1) (hw : safe = false → w' = w + 1) (hr : Uni safe (putTo cs v x (some t)) (bs ++ [v]) r w' R cs' bs') : Uni safe cs bs ((a, b) :: r) w R cs' bs'
 | occurs {cs : List Sc} {bs : List Nat} {p : Nat × Nat} {r : List (Nat × Nat)} {w : Nat} {e : Int} (hs : safe = true) : Uni safe cs bs (p :: r) w (false, e) cs bs
 | clash {cs : List Sc} {bs : List Nat} {a b i j : Nat} {x y : Sc} {r : List (Nat × Nat)} {w : Nat} (ha : Root cs a i) (hb : Root cs b j) (hx : cs[i]? = some x) (hy : cs[j]? = some y) (hk : x.k ≠ 1) (hk' : y.k ≠ 1) (hn : ¬ (x.k = y.k ∧ x.n = y.n ∧ x.s = y.s ∧ x.args.length = y.args.length)) : Uni safe cs bs ((a, b) :: r) w (false, 0) cs bs
 | args {cs cs' : List Sc} {bs bs' : List Nat} {a b i j : Nat} {x y : Sc} {r : List (Nat × Nat)} {w : Nat} {R : Bool × Int} (ha : Root cs a i) (hb : Root cs b j) (hx : cs[i]? = some x) (hy : cs[j]? = some y) (hk : x.k ≠ 1) (hk' : y.k ≠ 1) (hn : x.k = y.k ∧ x.n = y.n ∧ x.s = y.s ∧ x.args.length = y.args.length) (hr : Uni safe cs bs (x.args.zip y.args ++ r) (w + 1) R cs' bs') : Uni safe cs bs ((a, b) :: r) w R cs' bs'
structure Cons (E : Tm → Tm → Prop) : Prop where
 refl : ∀ a, E a a
 symm : ∀ {a b}, E a b → E b a
 trans : ∀ {a b c}, E a b → E b c → E a c
 head : ∀ {a b}, E a b → a.k ≠ 1 → b.k ≠ 1 → a.k = b.k ∧ a.n = b.n ∧ a.s = b.s ∧ a.args.length = b.args.length ∧ ∀ (i : Nat) x y, a.args[i]? = some x → b.args[i]? = some y → E x y
def Unif (x y : Tm) : Prop := ∃ E, Cons E ∧ E x y
theorem Unif.symm {x y : Tm} (h : Unif x y) : Unif y x := by
 obtain ⟨E, h1, h2⟩ := h
 exact ⟨E, h1, h1.symm h2⟩
theorem Unif.refl (x : Tm) : Unif x x := ⟨Eq, ⟨fun _ => rfl, Eq.symm, Eq.trans, fun {a b} h _ _ => by
 subst h
 exact ⟨rfl, rfl, rfl, rfl, fun i x y hx hy => by rw [hx] at hy; injection hy⟩⟩, rfl⟩
structure Shape (cs : List Sc) (T : Nat → Tm) : Prop where
 var : ∀ (i : Nat) c, cs[i]? = some c → c.k = 1 → (T i).k = 1
 one : ∀ (i j : Nat) c d, cs[i]? = some c → cs[j]? = some d → c.k = 1 → d.k = 1 → T i = T j → i = j
 comp : ∀ (i : Nat) c, cs[i]? = some c → c.k ≠ 1 → T i = .mk c.k c.n c.s (c.args.map T)
 bound : ∀ (i : Nat) c, cs[i]? = some c → c.to ≠ none → c.k = 1
theorem Shape.put {cs : List Sc} {T : Nat → Tm} (h : Shape cs T) {v : Nat} {c : Sc} (hv : cs[v]? = some c) (hk : c.k = 1) (t : Option Nat) : Shape (putTo cs v c t) T := by
 have ht : ∀ (i : Nat) d, (putTo cs v c t)[i]? = some d → ∃ d0, cs[i]? = some d0 ∧ d.k = d0.k ∧ d.n = d0.n ∧ d.s = d0.s ∧ d.args = d0.args ∧ (i ≠ v → d = d0) := fun i d hd => by
  by_cases e : i = v
  ·subst e
   rw [putTo_at hv] at hd
   injection hd with hd
   subst hd
   exact ⟨c, hv, rfl, rfl, rfl, rfl, fun e => absurd rfl e⟩
  ·rw [putTo_ne c t e] at hd
   exact ⟨d, hd, rfl, rfl, rfl, rfl, fun _ => rfl⟩
 refine ⟨fun i d hd h1 => ?_, fun i j d d' hd hd' h1 h2 he => ?_, fun i d hd h1 => ?_, fun i d hd h1 => ?_⟩
 ·obtain ⟨d0, h2, h3, -⟩ := ht i d hd
  exact h.var i d0 h2 (h3 ▸ h1)
 ·obtain ⟨d0, h3, h4, -⟩ := ht i d hd
  obtain ⟨d1, h5, h6, -⟩ := ht j d' hd'
  exact h.one i j d0 d1 h3 h5 (h4 ▸ h1) (h6 ▸ h2) he
 ·obtain ⟨d0, h2, h3, h4, h5, h6, -⟩ := ht i d hd
  rw [h.comp i d0 h2 (h3 ▸ h1), h3, h4, h5, h6]
 ·by_cases e : i = v
  ·subst e
   rw [putTo_at hv] at hd
   injection hd with hd
   subst hd
   exact hk
  ·obtain ⟨d0, h2, h3, -, -, -, h7⟩ := ht i d hd
   have := h7 e
   subst this
   exact h.bound i d h2 h1
def Bound (cs : List Sc) (T : Nat → Tm) (E : Tm → Tm → Prop) : Prop := ∀ (i j : Nat) c, cs[i]? = some c → c.to = some j → E (T i) (T j)
theorem Bound.root {cs : List Sc} {T : Nat → Tm} {E : Tm → Tm → Prop} (hE : Cons E) (h : Bound cs T E) {i j : Nat} (hr : Root cs i j) : E (T i) (T j) := by
 induction hr with
 | here => exact hE.refl _
 | step h1 h2 _ ih => exact hE.trans (h _ _ _ h1 h2) ih
theorem Bound.put {cs : List Sc} {T : Nat → Tm} {E : Tm → Tm → Prop} (h : Bound cs T E) {v t : Nat} {c : Sc} (hv : cs[v]? = some c) (hE : E (T v) (T t)) : Bound (putTo cs v c (some t)) T E := fun i j d hd ht => by
 by_cases e : i = v
 ·subst e
  rw [putTo_at hv] at hd
  injection hd with hd
  subst hd
  injection ht with ht
  subst ht
  exact hE
 ·rw [putTo_ne c _ e] at hd
  exact h i j d hd ht
theorem zip_at {α β : Type} : ∀ {l : List α} {m : List β} {p : α × β}, p ∈ l.zip m → ∃ i : Nat, l[i]? = some p.1 ∧ m[i]? = some p.2
 | [], _, _, h => by simp at h
 | _ :: _, [], _, h => by simp at h
 | a :: l, b :: m, p, h => by
  rw [List.zip_cons_cons] at h
  rcases List.mem_cons.1 h with rfl | h
  ·exact ⟨0, rfl, rfl⟩
  ·obtain ⟨i, h1, h2⟩ := zip_at h
   exact ⟨i + 1, h1, h2⟩
theorem uni_false {T : Nat → Tm} {E : Tm → Tm → Prop} (hE : Cons E) {cs cs' : List Sc} {bs bs' : List Nat} {r : List (Nat × Nat)} {w : Nat} {R : Bool × Int} (h : Uni false cs bs r w R cs' bs') (hR : R = (false, 0)) (hS : Shape cs T) (hB : Bound cs T E) (hr : ∀ p ∈ r, E (T p.1) (T p.2)) : False := by
 induction h with
 | done => cases hR
 | tired => cases hR
 | same ha hb _ ih => exact ih hR hS hB fun p hp => hr p (List.mem_cons_of_mem _ hp)
 | @bind cs cs' bs bs' a b i j v t x r w w' R ha hb hij hv hx hk _ _ ih =>
  have h1 : E (T a) (T b) := hr (a, b) (List.mem_cons_self ..)
  have h2 := hE.trans (hE.trans (hE.symm (hB.root hE ha)) h1) (hB.root hE hb)
  have h3 : E (T v) (T t) := by
   rcases hv with ⟨rfl, rfl⟩ | ⟨rfl, rfl⟩
   ·exact h2
   ·exact hE.symm h2
  exact ih hR (hS.put hx hk _) (hB.put hx h3) fun p hp => hr p (List.mem_cons_of_mem _ hp)
 | occurs hs => cases hs
 | @clash cs bs a b i j x y r w ha hb hx hy hk hk' hn =>
  have h1 : E (T a) (T b) := hr (a, b) (List.mem_cons_self ..)
  have h2 := hE.trans (hE.trans (hE.symm (hB.root hE ha)) h1) (hB.root hE hb)
  have e1 := hS.comp _ _ hx hk
  have e2 := hS.comp _ _ hy hk'
  obtain ⟨q1, q2, q3, q4, -⟩ := hE.head h2 (by rw [e1]; exact hk) (by rw [e2]; exact hk')
  rw [e1, e2] at q1 q2 q3 q4
  refine hn ⟨q1, q2, q3, ?_⟩
  have q4 : (x.args.map T).length = (y.args.map T).length := q4
  simpa only [List.length_map] using q4
 | @args cs cs' bs bs' a b i j x y r w R ha hb hx hy hk hk' hn _ ih =>
  have h1 : E (T a) (T b) := hr (a, b) (List.mem_cons_self ..)
  have h2 := hE.trans (hE.trans (hE.symm (hB.root hE ha)) h1) (hB.root hE hb)
  have e1 := hS.comp _ _ hx hk
  have e2 := hS.comp _ _ hy hk'
  obtain ⟨-, -, -, -, q5⟩ := hE.head h2 (by rw [e1]; exact hk) (by rw [e2]; exact hk')
  refine ih hR hS hB fun p hp => ?_
  rcases List.mem_append.1 hp with hp | hp
  ·obtain ⟨k, h3, h4⟩ := zip_at hp
   refine q5 k (T p.1) (T p.2) ?_ ?_
   ·rw [e1]
    show (x.args.map T)[k]? = _
    rw [List.getElem?_map, h3]
    rfl
   ·rw [e2]
    show (y.args.map T)[k]? = _
    rw [List.getElem?_map, h4]
    rfl
  ·exact hr p (List.mem_cons_of_mem _ hp)
inductive Ev (r : Tm → Tm → Prop) : Tm → Tm → Prop
 | rel {a b : Tm} (h : r a b) : Ev r a b
 | refl (a : Tm) : Ev r a a
 | symm {a b : Tm} (h : Ev r a b) : Ev r b a
 | trans {a b c : Tm} (h : Ev r a b) (h' : Ev r b c) : Ev r a c
theorem Ev.mono {r r' : Tm → Tm → Prop} (hr : ∀ a b, r a b → Ev r' a b) {a b : Tm} (h : Ev r a b) : Ev r' a b := by
 induction h with
 | rel h => exact hr _ _ h
 | refl a => exact .refl a
 | symm _ ih => exact .symm ih
 | trans _ _ ih ih' => exact .trans ih ih'
def Gens (cs : List Sc) (T : Nat → Tm) (D : List (Tm × Tm)) (r : List (Nat × Nat)) (a b : Tm) : Prop :=
 (∃ (i j : Nat) (c : Sc), cs[i]? = some c ∧ c.to = some j ∧ a = T i ∧ b = T j) ∨ (a, b) ∈ D ∨ ∃ p ∈ r, a = T p.1 ∧ b = T p.2
theorem gens_root {cs : List Sc} {T : Nat → Tm} {D : List (Tm × Tm)} {r : List (Nat × Nat)} {i j : Nat} (h : Root cs i j) : Ev (Gens cs T D r) (T i) (T j) := by
 induction h with
 | here => exact .refl _
 | step h1 h2 _ ih => exact .trans (.rel (.inl ⟨_, _, _, h1, h2, rfl, rfl⟩)) ih
def Heads (E : Tm → Tm → Prop) (a b : Tm) : Prop := a.k = b.k ∧ a.n = b.n ∧ a.s = b.s ∧ a.args.length = b.args.length ∧ ∀ (i : Nat) x y, a.args[i]? = some x → b.args[i]? = some y → E x y
theorem Heads.mono {E E' : Tm → Tm → Prop} (h : ∀ a b, E a b → E' a b) {a b : Tm} (hh : Heads E a b) : Heads E' a b :=
 ⟨hh.1, hh.2.1, hh.2.2.1, hh.2.2.2.1, fun i x y hx hy => h x y (hh.2.2.2.2 i x y hx hy)⟩
theorem Heads.ev {r E : Tm → Tm → Prop} (hr : ∀ a b, r a b → Heads (Ev E) a b) {a b : Tm} (h : Ev r a b) : Heads (Ev E) a b := by
 induction h with
 | rel h => exact hr _ _ h
 | refl a => exact ⟨rfl, rfl, rfl, rfl, fun i x y hx hy => by rw [hx] at hy; injection hy with hy; subst hy; exact .refl x⟩
 | symm _ ih =>
  obtain ⟨h1, h2, h3, h4, h5⟩ := ih
  exact ⟨h1.symm, h2.symm, h3.symm, h4.symm, fun i x y hx hy => .symm (h5 i y x hy hx)⟩
 | @trans a b c _ _ ih ih' =>
  obtain ⟨h1, h2, h3, h4, h5⟩ := ih
  obtain ⟨g1, g2, g3, g4, g5⟩ := ih'
  refine ⟨h1.trans g1, h2.trans g2, h3.trans g3, h4.trans g4, fun i x y hx hy => ?_⟩
  have hi : i < b.args.length := by rw [← h4]; exact (List.getElem?_eq_some_iff.1 hx).1
  exact .trans (h5 i x _ hx (List.getElem?_eq_getElem hi)) (g5 i _ y (List.getElem?_eq_getElem hi) hy)
def Flw (cs : List Sc) : Prop := ∀ i, i < cs.length → ∃ j, Root cs i j
theorem Root.self {cs : List Sc} {i j : Nat} (h : Root cs i j) : Root cs j j := by
 obtain ⟨c, h1, h2⟩ := h.free
 exact .here h1 h2
theorem Flw.bind {cs : List Sc} (h : Flw cs) {v t : Nat} {c : Sc} (hv : cs[v]? = some c) (h0 : c.to = none) (ht : Root cs t t) (hne : v ≠ t) : Flw (putTo cs v c (some t)) := fun i hi => by
 rw [putTo_len] at hi
 obtain ⟨j, hj⟩ := h i hi
 exact ⟨_, Root.bind hv h0 ht hne hj⟩
theorem Flw.loose {cs : List Sc} (h : Flw cs) {v : Nat} {c : Sc} (hv : cs[v]? = some c) : Flw (putTo cs v c none) := fun i hi => by
 rw [putTo_len] at hi
 obtain ⟨j, hj⟩ := h i hi
 exact hj.loose hv
theorem cons_done {cs : List Sc} {T : Nat → Tm} {D : List (Tm × Tm)} (hS : Shape cs T) (hF : Flw cs) (hD : ∀ p ∈ D, p.1.k ≠ 1 ∧ p.2.k ≠ 1 ∧ Heads (Ev (Gens cs T D [])) p.1 p.2) : Cons (Ev (Gens cs T D [])) := by
 refine ⟨.refl, .symm, .trans, fun {a b} h ha hb => ?_⟩
 let Rt : Tm → Tm → Prop := fun a p => (a.k ≠ 1 ∧ p = a) ∨ ∃ (i j : Nat) (c d : Sc), cs[i]? = some c ∧ c.k = 1 ∧ a = T i ∧ Root cs i j ∧ cs[j]? = some d ∧ d.k ≠ 1 ∧ p = T j
 let Vr : Tm → Nat → Prop := fun a j => ∃ (i : Nat) (c d : Sc), cs[i]? = some c ∧ c.k = 1 ∧ a = T i ∧ Root cs i j ∧ cs[j]? = some d ∧ d.k = 1
 have rfn : ∀ {a p q}, Rt a p → Rt a q → p = q := fun {a p q} h1 h2 => by
  rcases h1 with ⟨h1, rfl⟩ | ⟨i, j, c, d, h1, h3, h4, h5, h6, h7, rfl⟩
  ·rcases h2 with ⟨_, rfl⟩ | ⟨i, j, c, d, g1, g3, g4, -⟩
   ·rfl
   ·exact absurd (g4 ▸ hS.var i c g1 g3) h1
  ·rcases h2 with ⟨g1, _⟩ | ⟨i', j', c', d', g1, g3, g4, g5, g6, g7, rfl⟩
   ·exact absurd (h4 ▸ hS.var i c h1 h3) g1
   ·have e := hS.one i i' c c' h1 g1 h3 g3 (h4.symm.trans g4)
    subst e
    rw [h5.fn g5]
 have vfn : ∀ {a j j'}, Vr a j → Vr a j' → j = j' := fun {a j j'} h1 h2 => by
  obtain ⟨i, c, d, h1, h3, h4, h5, -⟩ := h1
  obtain ⟨i', c', d', g1, g3, g4, g5, -⟩ := h2
  have e := hS.one i i' c c' h1 g1 h3 g3 (h4.symm.trans g4)
  subst e
  exact h5.fn g5
 have rv : ∀ {a p j}, Rt a p → Vr a j → False := fun {a p j} h1 h2 => by
  obtain ⟨i', c', d', g1, g3, g4, g5, g6, g7⟩ := h2
  rcases h1 with ⟨h1, _⟩ | ⟨i, k, c, d, h1, h3, h4, h5, h6, h7, -⟩
  ·exact h1 (g4 ▸ hS.var i' c' g1 g3)
  ·have e := hS.one i i' c c' h1 g1 h3 g3 (h4.symm.trans g4)
   subst e
   have e := h5.fn g5
   subst e
   rw [h6] at g6
   injection g6 with g6
   subst g6
   exact h7 g7
 have hQ : ∀ {a b}, Ev (Gens cs T D []) a b → (∃ p q, Rt a p ∧ Rt b q ∧ Ev (fun x y => (x, y) ∈ D) p q) ∨ (∃ j, Vr a j ∧ Vr b j) ∨ a = b := fun {a b} h => by
  induction h with
  | rel h =>
   rcases h with ⟨i, j, c, h1, h2, rfl, rfl⟩ | h | ⟨p, hp, -⟩
   ·have hk := hS.bound i c h1 (by rw [h2]; exact fun e => by cases e)
    obtain ⟨k, hr⟩ := hF i (List.getElem?_eq_some_iff.1 h1).1
    have hrj : Root cs j k := by
     cases hr with
     | here h h0 =>
      rw [h1] at h
      injection h with h
      subst h
      rw [h2] at h0
      cases h0
     | step h h0 hr =>
      rw [h1] at h
      injection h with h
      subst h
      rw [h2] at h0
      injection h0 with h0
      subst h0
      exact hr
    obtain ⟨d, g1, g2⟩ := hr.free
    obtain ⟨y, hj⟩ : ∃ y, cs[j]? = some y := ⟨_, List.getElem?_eq_getElem hrj.lt⟩
    by_cases hd : d.k = 1
    ·refine .inr (.inl ⟨k, ⟨i, c, d, h1, hk, rfl, hr, g1, hd⟩, j, y, d, hj, ?_, rfl, hrj, g1, hd⟩)
     refine Decidable.byContradiction fun e => ?_
     have h0 : y.to = none := by
      cases h9 : y.to with
      | none => rfl
      | some z => exact absurd (hS.bound j y hj (by rw [h9]; exact fun e => by cases e)) e
     have := hrj.fn (.here hj h0)
     subst this
     rw [hj] at g1
     injection g1 with g1
     subst g1
     exact e hd
    ·refine .inl ⟨T k, T k, .inr ⟨i, k, c, d, h1, hk, rfl, hr, g1, hd, rfl⟩, ?_, .refl _⟩
     by_cases e : y.k = 1
     ·exact .inr ⟨j, k, y, d, hj, e, rfl, hrj, g1, hd, rfl⟩
     ·have h0 : y.to = none := by
       cases h9 : y.to with
       | none => rfl
       | some z => exact absurd (hS.bound j y hj (by rw [h9]; exact fun e => by cases e)) e
      have := hrj.fn (.here hj h0)
      subst this
      exact .inl ⟨by rw [hS.comp _ _ hj e]; exact e, rfl⟩
   ·obtain ⟨h1, h2, -⟩ := hD _ h
    exact .inl ⟨_, _, .inl ⟨h1, rfl⟩, .inl ⟨h2, rfl⟩, .rel h⟩
   ·cases hp
  | refl a => exact .inr (.inr rfl)
  | symm _ ih =>
   rcases ih with ⟨p, q, h1, h2, h3⟩ | ⟨j, h1, h2⟩ | rfl
   ·exact .inl ⟨q, p, h2, h1, .symm h3⟩
   ·exact .inr (.inl ⟨j, h2, h1⟩)
   ·exact .inr (.inr rfl)
  | trans _ _ ih ih' =>
   rcases ih with ⟨p, q, h1, h2, h3⟩ | ⟨j, h1, h2⟩ | rfl
   ·rcases ih' with ⟨p', q', g1, g2, g3⟩ | ⟨j', g1, g2⟩ | rfl
    ·have e := rfn h2 g1
     subst e
     exact .inl ⟨p, q', h1, g2, .trans h3 g3⟩
    ·exact (rv h2 g1).elim
    ·exact .inl ⟨p, q, h1, h2, h3⟩
   ·rcases ih' with ⟨p', q', g1, g2, g3⟩ | ⟨j', g1, g2⟩ | rfl
    ·exact (rv g1 h2).elim
    ·have e := vfn h2 g1
     subst e
     exact .inr (.inl ⟨j, h1, g2⟩)
    ·exact .inr (.inl ⟨j, h1, h2⟩)
   ·exact ih'
 have hds : ∀ {p q}, Ev (fun x y => (x, y) ∈ D) p q → Heads (Ev (Gens cs T D [])) p q := fun {p q} h => Heads.ev (fun a b hab => (hD (a, b) hab).2.2) h
 rcases hQ h with ⟨p, q, h1, h2, h3⟩ | ⟨j, ⟨i, c, d, g1, g2, rfl, -⟩, -⟩ | rfl
 ·have e1 : p = a := (rfn h1 (.inl ⟨ha, rfl⟩))
  have e2 : q = b := (rfn h2 (.inl ⟨hb, rfl⟩))
  subst e1 e2
  exact hds h3
 ·exact absurd (hS.var i c g1 g2) ha
 ·exact Heads.ev (r := fun _ _ => False) (fun _ _ h => h.elim) (.refl a)
theorem uni_true {safe : Bool} {T : Nat → Tm} {cs cs' : List Sc} {bs bs' : List Nat} {r : List (Nat × Nat)} {w : Nat} {R : Bool × Int} (h : Uni safe cs bs r w R cs' bs') (hR : R.1 = true) (hS : Shape cs T) (hF : Flw cs) :
    ∀ D : List (Tm × Tm), (∀ p ∈ D, p.1.k ≠ 1 ∧ p.2.k ≠ 1 ∧ Heads (Ev (Gens cs T D r)) p.1 p.2) → ∃ E, Cons E ∧ ∀ a b, Ev (Gens cs T D r) a b → E a b := by
 induction h with
 | done => exact fun D hD => ⟨_, cons_done hS hF hD, fun _ _ h => h⟩
 | tired => cases hR
 | @same cs cs' bs bs' a b j r w R ha hb _ ih =>
  intro D hD
  have hm : ∀ x y, Ev (Gens cs T D ((a, b) :: r)) x y → Ev (Gens cs T D r) x y := fun x y => Ev.mono fun x y h => by
   rcases h with h | h | ⟨p, hp, e1, e2⟩
   ·exact .rel (.inl h)
   ·exact .rel (.inr (.inl h))
   ·rcases List.mem_cons.1 hp with rfl | hp
    ·rw [e1, e2]
     exact .trans (gens_root ha) (.symm (gens_root hb))
    ·exact .rel (.inr (.inr ⟨p, hp, e1, e2⟩))
  obtain ⟨E, h1, h2⟩ := ih hR hS hF D fun p hp => ⟨(hD p hp).1, (hD p hp).2.1, (hD p hp).2.2.mono hm⟩
  exact ⟨E, h1, fun x y h => h2 x y (hm x y h)⟩
 | @bind cs cs' bs bs' a b i j v t x r w w' R ha hb hij hv hx hk _ _ ih =>
  intro D hD
  have hvt : v ≠ t ∧ Root cs v v ∧ Root cs t t := by
   rcases hv with ⟨rfl, rfl⟩ | ⟨rfl, rfl⟩
   ·exact ⟨hij, ha.self, hb.self⟩
   ·exact ⟨Ne.symm hij, hb.self, ha.self⟩
  have hx0 : x.to = none := by
   obtain ⟨c, h1, h2⟩ := hvt.2.1.free
   rw [hx] at h1
   injection h1 with h1
   rw [h1]
   exact h2
  have hs : ∀ {x0 y0}, Gens cs T D r x0 y0 → Ev (Gens (putTo cs v x (some t)) T D r) x0 y0 := fun {x0 y0} h => by
   rcases h with ⟨i', j', c, h1, h2, e1, e2⟩ | h | h
   ·refine .rel (.inl ⟨i', j', c, ?_, h2, e1, e2⟩)
    rw [putTo_ne x (some t) (fun e => ?_)]
    ·exact h1
    ·subst e
     rw [hx] at h1
     injection h1 with h1
     subst h1
     rw [hx0] at h2
     cases h2
   ·exact .rel (.inr (.inl h))
   ·exact .rel (.inr (.inr h))
  have hvt9 : Ev (Gens (putTo cs v x (some t)) T D r) (T v) (T t) := .rel (.inl ⟨v, t, _, putTo_at hx _, rfl, rfl, rfl⟩)
  have hm : ∀ x0 y0, Ev (Gens cs T D ((a, b) :: r)) x0 y0 → Ev (Gens (putTo cs v x (some t)) T D r) x0 y0 := fun x0 y0 => Ev.mono fun x0 y0 h => by
   rcases h with h | h | ⟨p, hp, e1, e2⟩
   ·exact hs (.inl h)
   ·exact hs (.inr (.inl h))
   ·rcases List.mem_cons.1 hp with rfl | hp
    ·rw [e1, e2]
     have q1 : Ev (Gens (putTo cs v x (some t)) T D r) (T a) (T i) := Ev.mono (fun _ _ h => hs h) (gens_root (r := r) (D := D) ha)
     have q2 : Ev (Gens (putTo cs v x (some t)) T D r) (T b) (T j) := Ev.mono (fun _ _ h => hs h) (gens_root (r := r) (D := D) hb)
     refine .trans q1 (.trans ?_ (.symm q2))
     rcases hv with ⟨rfl, rfl⟩ | ⟨rfl, rfl⟩
     ·exact hvt9
     ·exact .symm hvt9
    ·exact hs (.inr (.inr ⟨p, hp, e1, e2⟩))
  obtain ⟨E, h1, h2⟩ := ih hR (hS.put hx hk _) (hF.bind hx hx0 hvt.2.2 hvt.1) D fun p hp => ⟨(hD p hp).1, (hD p hp).2.1, (hD p hp).2.2.mono hm⟩
  exact ⟨E, h1, fun x y h => h2 x y (hm x y h)⟩
 | occurs => cases hR
 | clash => cases hR
 | @args cs cs' bs bs' a b i j x y r w R ha hb hx hy hk hk' hn _ ih =>
  intro D hD
  have e1 := hS.comp _ _ hx hk
  have e2 := hS.comp _ _ hy hk'
  have hm : ∀ x0 y0, Ev (Gens cs T D ((a, b) :: r)) x0 y0 → Ev (Gens cs T ((T i, T j) :: D) (x.args.zip y.args ++ r)) x0 y0 := fun x0 y0 => Ev.mono fun x0 y0 h => by
   rcases h with h | h | ⟨p, hp, e1, e2⟩
   ·exact .rel (.inl h)
   ·exact .rel (.inr (.inl (List.mem_cons_of_mem _ h)))
   ·rcases List.mem_cons.1 hp with rfl | hp
    ·rw [e1, e2]
     exact .trans (gens_root ha) (.trans (.rel (.inr (.inl (List.mem_cons_self ..)))) (.symm (gens_root hb)))
    ·exact .rel (.inr (.inr ⟨p, List.mem_append_right _ hp, e1, e2⟩))
  obtain ⟨E, h1, h2⟩ := ih hR hS hF ((T i, T j) :: D) fun p hp => by
   rcases List.mem_cons.1 hp with rfl | hp
   ·refine ⟨by rw [e1]; exact hk, by rw [e2]; exact hk', ?_⟩
    rw [e1, e2]
    refine ⟨hn.1, hn.2.1, hn.2.2.1, by show (x.args.map T).length = (y.args.map T).length; rw [List.length_map, List.length_map]; exact hn.2.2.2, fun q x0 y0 h3 h4 => ?_⟩
    have h3 : (x.args.map T)[q]? = some x0 := h3
    have h4 : (y.args.map T)[q]? = some y0 := h4
    rw [List.getElem?_map] at h3 h4
    cases h5 : x.args[q]? with
    | none => rw [h5] at h3; cases h3
    | some u =>
     cases h6 : y.args[q]? with
     | none => rw [h6] at h4; cases h4
     | some v =>
      rw [h5] at h3
      rw [h6] at h4
      injection h3 with h3
      injection h4 with h4
      subst h3 h4
      refine .rel (.inr (.inr ⟨(u, v), List.mem_append_left _ ?_, rfl, rfl⟩))
      refine List.mem_of_getElem? (i := q) ?_
      rw [List.getElem?_zip_eq_some]
      exact ⟨h5, h6⟩
   ·exact ⟨(hD p hp).1, (hD p hp).2.1, (hD p hp).2.2.mono hm⟩
  exact ⟨E, h1, fun x y h => h2 x y (hm x y h)⟩
theorem uni_unif {safe : Bool} {T : Nat → Tm} {cs cs' : List Sc} {bs bs' : List Nat} {a b : Nat} {w : Nat} {ok : Bool} {e : Int} (h : Uni safe cs bs [(a, b)] w (ok, e) cs' bs') (hS : Shape cs T) (hF : Flw cs) (h0 : ∀ (i : Nat) c, cs[i]? = some c → c.to = none) :
    (ok = true → Unif (T a) (T b)) ∧ (safe = false → ok = false → e = 0 → ¬ Unif (T a) (T b)) := by
 refine ⟨fun hk => ?_, fun hs hk he hu => ?_⟩
 ·obtain ⟨E, h1, h2⟩ := uni_true h hk hS hF [] (fun p hp => by cases hp)
  exact ⟨E, h1, h2 _ _ (.rel (.inr (.inr ⟨(a, b), List.mem_cons_self .., rfl, rfl⟩)))⟩
 ·subst hs hk he
  obtain ⟨E, h1, h2⟩ := hu
  exact uni_false h1 h rfl hS (fun i j c hc ht => by rw [h0 i c hc] at ht; cases ht) (fun p hp => by
   rcases List.mem_cons.1 hp with rfl | hp
   ·exact h2
   ·cases hp)
open Go.RowKit Go.Maps
set_option maxRecDepth 100000
structure ArgsAt (u : World) (A : Option Addr) (l : List Nat) : Prop where
 nil : l = [] → A = none
 at' : ∀ (i : Nat) a, l[i]? = some a → ∃ b off, A = some ⟨b, off, none⟩ ∧ TyB u 3 b ∧ u.cell? ⟨b, off + i, none⟩ = some (.int .i64 (a : Nat))
theorem ArgsAt.keep {u u' : World} {A : Option Addr} {l : List Nat} (h : ArgsAt u A l) (hb : ∀ b, TyB u 3 b → u'.heap[b]? = u.heap[b]?) : ArgsAt u' A l := ⟨h.nil, fun i a ha => by
 obtain ⟨b, off, e1, e2, e3⟩ := h.at' i a ha
 exact ⟨b, off, e1, e2.keep (hb b e2), (World.cell?_of_block (a := ⟨b, off + i, none⟩) (hb b e2)).trans e3⟩⟩
theorem ArgsAt.keep' {u u' : World} {A : Option Addr} {l : List Nat} (h : ArgsAt u A l) (hb : ∀ b off, A = some ⟨b, off, none⟩ → TyB u 3 b → u'.heap[b]? = u.heap[b]?) : ArgsAt u' A l := ⟨h.nil, fun i a ha => by
 obtain ⟨b, off, e1, e2, e3⟩ := h.at' i a ha
 exact ⟨b, off, e1, e2.keep (hb b off e1 e2), (World.cell?_of_block (a := ⟨b, off + i, none⟩) (hb b off e1 e2)).trans e3⟩⟩
theorem ArgsAt.later {u u' : World} {A : Option Addr} {l : List Nat} (h : ArgsAt u A l) (hb : Below u.heap.size u u') : ArgsAt u' A l := h.keep fun b ht => hb.block b ht.lt
def encN (a : Nat) : List Value := [.int .i64 (a : Nat)]
theorem encN_len (x : Nat) : (encN x).length = 1 := rfl
theorem encN_one (x : Nat) : ∀ u ∈ encN x, u.oneCell' = true := by
 intro u hu
 simp [encN] at hu
 subst hu
 rfl
theorem ArgsAt.row {u : World} {B n c : Nat} {A : Option Addr} {l : List Nat} (h : Row u B 3 1 encN (.slice A n c) l) (hl : l ≠ []) : ArgsAt u A l := ⟨fun e => absurd e hl, fun i a ha => by
 obtain ⟨g, cap, e1, e2, e3, e4, e5⟩ := h.cells encN_len hl
 injection e1 with q1 q2 q3
 have h1 := (e5 i a ha 0 _ rfl).1
 rw [Nat.mul_one, Nat.add_zero] at h1
 exact ⟨g, 0, q1, h.ty (by rw [q1]; rfl), by rw [Nat.zero_add]; exact h1⟩⟩
structure ScM where
 k : Int
 n : Int
 s : List UInt8
 A : Option Addr
 m : Nat
 c : Nat
 to : Int
 top : Int
def encM (x : ScM) : List Value := [.int .i64 x.k, .int .i64 x.n, .string ⟨x.s.toArray⟩, .slice x.A x.m x.c, .int .i64 x.to, .int .i64 x.top]
theorem encM_len (x : ScM) : (encM x).length = 6 := rfl
theorem encM_one (x : ScM) : ∀ u ∈ encM x, u.oneCell' = true := by
 intro u hu
 simp [encM] at hu
 rcases hu with rfl | rfl | rfl | rfl | rfl | rfl <;> rfl
def toI : Option Nat → Int
 | none => -1
 | some j => (j : Int)
structure OkM (u : World) (x : ScM) (c : Sc) : Prop where
 k : x.k = c.k
 n : x.n = c.n
 s : x.s = c.s
 to : x.to = toI c.to
 m : x.m = c.args.length
 args : ArgsAt u x.A c.args
 short : x.s.length ≤ maxLen
 top : -1 ≤ x.top ∧ x.top ≤ 100000000
def encD (y : Nat × Int) : List Value := [.int .i64 (y.1 : Nat), .int .i64 y.2]
theorem encD_len (x : Nat × Int) : (encD x).length = 2 := rfl
theorem encD_one (x : Nat × Int) : ∀ u ∈ encD x, u.oneCell' = true := by
 intro u hu
 simp [encD] at hu
 rcases hu with rfl | rfl <;> rfl
variable [Base]
set_option linter.unusedSectionVars false
structure StAt (sb : Nat) (room : Nat) (u : World) (cv bv : Value) (xs : List ScM) (cs : List Sc) (ys : List (Nat × Int)) : Prop where
 blk : u.heap[sb]? = some (.cells #[.int .i64 (room : Nat), cv, bv] 171 (0, 0))
 row : Row u (sb + 1) 366 6 encM cv xs
 bonds : Row u (sb + 1) 458 2 encD bv ys
 len : xs.length = cs.length
 ok : ∀ (i : Nat) x c, xs[i]? = some x → cs[i]? = some c → OkM u x c
 few : cs.length ≤ room
 room : room ≤ 16777216 ∧ Base.b ≤ sb
 flw : Flw cs
 args : ∀ (i : Nat) c, cs[i]? = some c → ∀ a ∈ c.args, a < cs.length
 ar : ∀ (i : Nat) c, cs[i]? = some c → c.args.length ≤ 255
 bnd : ∀ y ∈ ys, y.1 < cs.length ∧ -1 ≤ y.2 ∧ y.2 ≤ 100000000
 many : ys.length ≤ 100000000
def ABs (xs : List ScM) (b : Nat) : Prop := ∃ x ∈ xs, ∃ off, x.A = some ⟨b, off, none⟩
def stT : List TypeId := [171, 366, 458]
section
variable {sb room : Nat} {u u' : World} {cv bv : Value} {xs : List ScM} {cs : List Sc} {ys : List (Nat × Int)} {bs : List Nat}
theorem StAt.ge (h : StAt sb room u cv bv xs cs ys) : Base.b ≤ sb := h.room.2
theorem StAt.rowge (h : StAt sb room u cv bv xs cs ys) {g : Nat} (hg : cv.ownBlock = some g) : Base.b ≤ g := by
 have := (h.row.lt g hg).1
 have := h.ge
 omega
theorem StAt.bdge (h : StAt sb room u cv bv xs cs ys) {g : Nat} (hg : bv.ownBlock = some g) : Base.b ≤ g := by
 have := (h.bonds.lt g hg).1
 have := h.ge
 omega
theorem StAt.lt (h : StAt sb room u cv bv xs cs ys) : sb < u.heap.size := (Array.getElem?_eq_some_iff.1 h.blk).1
theorem StAt.cells (h : StAt sb room u cv bv xs cs ys) : u.cell? ⟨sb, 0, none⟩ = some (.int .i64 (room : Nat)) ∧ u.cell? ⟨sb, 1, none⟩ = some cv ∧ u.cell? ⟨sb, 2, none⟩ = some bv ∧ ∀ o, u.frozen? ⟨sb, o, none⟩ = false :=
 ⟨by rw [cell_of_row u sb 0 _ _ (0, 0) h.blk]; rfl, by rw [cell_of_row u sb 1 _ _ (0, 0) h.blk]; rfl, by rw [cell_of_row u sb 2 _ _ (0, 0) h.blk]; rfl, fun o => by simp [World.frozen?, h.blk]⟩
theorem StAt.keep (h : StAt sb room u cv bv xs cs ys) (hb : ∀ t b, t ∈ 3 :: stT → TyB u t b → u'.heap[b]? = u.heap[b]?) : StAt sb room u' cv bv xs cs ys :=
 ⟨(hb 171 sb (by decide) ⟨_, h.blk⟩).trans h.blk, h.row.keep fun k hk => hb 366 k (by decide) (h.row.ty hk), h.bonds.keep fun k hk => hb 458 k (by decide) (h.bonds.ty hk), h.len,
  fun i x c hx hc => ⟨(h.ok i x c hx hc).k, (h.ok i x c hx hc).n, (h.ok i x c hx hc).s, (h.ok i x c hx hc).to, (h.ok i x c hx hc).m, (h.ok i x c hx hc).args.keep fun b => hb 3 b (by decide), (h.ok i x c hx hc).short, (h.ok i x c hx hc).top⟩, h.few, h.room, h.flw, h.args, h.ar, h.bnd, h.many⟩
theorem StAt.keepA (h : StAt sb room u cv bv xs cs ys) (hb : ∀ t b, t ∈ stT → TyB u t b → u'.heap[b]? = u.heap[b]?) (ha : ∀ b, ABs xs b → TyB u 3 b → u'.heap[b]? = u.heap[b]?) : StAt sb room u' cv bv xs cs ys :=
 ⟨(hb 171 sb (by decide) ⟨_, h.blk⟩).trans h.blk, h.row.keep fun k hk => hb 366 k (by decide) (h.row.ty hk), h.bonds.keep fun k hk => hb 458 k (by decide) (h.bonds.ty hk), h.len,
  fun i x c hx hc => ⟨(h.ok i x c hx hc).k, (h.ok i x c hx hc).n, (h.ok i x c hx hc).s, (h.ok i x c hx hc).to, (h.ok i x c hx hc).m, (h.ok i x c hx hc).args.keep' fun b off e ht => ha b ⟨x, List.mem_of_getElem? hx, off, e⟩ ht, (h.ok i x c hx hc).short, (h.ok i x c hx hc).top⟩, h.few, h.room, h.flw, h.args, h.ar, h.bnd, h.many⟩
theorem StAt.later (h : StAt sb room u cv bv xs cs ys) (hb : Below u.heap.size u u') : StAt sb room u' cv bv xs cs ys := h.keep fun _ b _ ht => hb.block b ht.lt
theorem StAt.tf {B : Nat} {tys : List TypeId} (h : StAt sb room u cv bv xs cs ys) (hf : TFB B tys u u') (hn : ∀ t ∈ 3 :: stT, t ∉ tys) : StAt sb room u' cv bv xs cs ys := h.keep fun t _ ht hb => hf.block hb (hn t ht)
theorem StAt.at (h : StAt sb room u cv bv xs cs ys) {i : Nat} {c : Sc} (hc : cs[i]? = some c) : ∃ g cap x, cv = .slice (some ⟨g, 0, none⟩) cs.length cap ∧ sb < g ∧ g < u.heap.size ∧ xs[i]? = some x ∧ OkM u x c ∧ (∀ o, u.frozen? ⟨g, o, none⟩ = false) ∧
    u.cell? ⟨g, i * 6, none⟩ = some (.int .i64 c.k) ∧ u.cell? ⟨g, i * 6 + 1, none⟩ = some (.int .i64 c.n) ∧ u.cell? ⟨g, i * 6 + 2, none⟩ = some (.string ⟨c.s.toArray⟩) ∧ u.cell? ⟨g, i * 6 + 3, none⟩ = some (.slice x.A c.args.length x.c) ∧ u.cell? ⟨g, i * 6 + 4, none⟩ = some (.int .i64 (toI c.to)) ∧ u.cell? ⟨g, i * 6 + 5, none⟩ = some (.int .i64 x.top) := by
 have hi : i < xs.length := by rw [h.len]; exact (List.getElem?_eq_some_iff.1 hc).1
 have hx := List.getElem?_eq_getElem hi
 generalize xs[i] = x at hx
 obtain ⟨g, cap, e1, e2, e3, e4, e5⟩ := h.row.cells encM_len (by rintro rfl; simp at hi)
 have ho := h.ok i x c hx hc
 have hfz : ∀ o, u.frozen? ⟨g, o, none⟩ = false := fun o => by
  obtain ⟨cs0, h0⟩ := h.row.ty (g := g) (by rw [e1]; rfl)
  simp [World.frozen?, h0]
 refine ⟨g, cap, x, by rw [e1, h.len], by omega, e3, hx, ho, hfz, ?_, ?_, ?_, ?_, ?_, ?_⟩
 ·rw [← ho.k]; exact (e5 i x hx 0 _ rfl).1
 ·rw [← ho.n]; exact (e5 i x hx 1 _ rfl).1
 ·rw [← ho.s]; exact (e5 i x hx 2 _ rfl).1
 ·rw [← ho.m]; exact (e5 i x hx 3 _ rfl).1
 ·rw [← ho.to]; exact (e5 i x hx 4 _ rfl).1
 ·exact (e5 i x hx 5 _ rfl).1
end
end Go.Proofs.YtjdnigepnfeboaaGreatDoor
namespace Go.Proofs.YtjdnigepnfeboaaGreatDoor
open Go.RowKit Go.Maps
set_option maxRecDepth 100000
def ev6 (n : Int) : Value := .int .i64 n
def ok6 (n : Int) : Prop := -9223372036854775808 ≤ n ∧ n ≤ 9223372036854775807
theorem wf6 {a : Int} (h : ok6 a) : (Lit.int .i64 a).wf = true := by
 have e1 : IntKind.i64.min = -9223372036854775808 := by decide
 have e2 : IntKind.i64.max = 9223372036854775807 := by decide
 simp only [Lit.wf, Bool.and_eq_true, e1, e2]
 exact ⟨decide_eq_true h.1, decide_eq_true h.2⟩
theorem KE6 : KE Tryz.prog 2 ev6 ok6 :=
 ⟨int_keyed Tryz.underlying2, fun _ hk => ⟨_, keyOf_int_mk Tryz.underlying2 (wf6 hk)⟩, fun a b h => by simpa [ev6] using h⟩
theorem m6_keys {l : List (Int × Int)} {k n : Int} (h : ∀ x ∈ l, ok6 x.1) (hk : ok6 k) : ∀ x ∈ mput l k n, ok6 x.1 := fun x hx => by
 unfold mput at hx
 split at hx
 ·obtain ⟨y, hy, e⟩ := List.mem_map.1 hx
  split at e
  ·rw [← e]; exact hk
  ·rw [← e]; exact h y hy
 ·rcases List.mem_append.1 hx with hx | hx
  ·exact h x hx
  ·rw [List.mem_singleton] at hx
   rw [hx]; exact hk
structure M6 (u : World) (b : Nat) (l : List (Int × Int)) : Prop where
 map : MapAt u b ev6 ev6 l
 ok : ∀ x ∈ l, ok6 x.1
theorem mk_map (w : World) : (Instr.makeMap 104 none).run Tryz.prog w = .ok (.map (some w.heap.size)) (w.alloc (.map #[] 0)) := by
 simp [Instr.makeMap, Result.andThen]
theorem map_some (w : World) (b : Nat) : (binOp .neq 104 (.map (some b)) (.map none)).run Tryz.prog w = .ok (.bool true) w := by kernel_rfl
theorem mk_map2 (w : World) : (Instr.makeMap 212 none).run Tryz.prog w = .ok (.map (some w.heap.size)) (w.alloc (.map #[] 0)) := by
 simp [Instr.makeMap, Result.andThen]
section
variable {u u' : World} {b : Nat} {l : List (Int × Int)}
theorem M6.lt (h : M6 u b l) : b < u.heap.size := h.map.lt
theorem M6.keep (h : M6 u b l) (hb : u'.heap[b]? = u.heap[b]?) : M6 u' b l := ⟨h.map.keep hb, h.ok⟩
theorem M6.later (h : M6 u b l) (hb : Below u.heap.size u u') : M6 u' b l := h.keep (hb.block _ h.lt)
theorem M6.fr {S : Nat → Prop} (h : M6 u b l) (hf : Fr S u u') (hS : ¬ S b) : M6 u' b l := h.keep (hf.block _ h.lt hS)
theorem M6.made (w : World) : M6 (w.alloc (.map #[] 0)) w.heap.size [] := ⟨MapAt.made w, fun x hx => by cases hx⟩
theorem M6.look (h : M6 u b l) (k : Int) (hk : ok6 k) : (Instr.lookup 104 (.map (some b)) (.int .i64 k) true).run Tryz.prog u = .ok (.tuple #[.int .i64 ((mget l k).getD 0), .bool (mget l k).isSome]) u := by
 have := h.map.lookup (t := 104) KE6 Tryz.underlying104 (z := .int .i64 0) (fun u => by kernel_rfl) h.ok (k := k) hk true
 simp only [if_true] at this
 rw [show ((mget l k).map ev6).getD (.int .i64 0) = .int .i64 ((mget l k).getD 0) by cases mget l k <;> rfl] at this
 exact this
theorem M6.look2 (h : M6 u b l) (k : Int) (hk : ok6 k) : (Instr.lookup 212 (.map (some b)) (.int .i64 k) true).run Tryz.prog u = .ok (.tuple #[.int .i64 ((mget l k).getD 0), .bool (mget l k).isSome]) u := by
 have := h.map.lookup (t := 212) KE6 Tryz.underlying212 (z := .int .i64 0) (fun u => by kernel_rfl) h.ok (k := k) hk true
 simp only [if_true] at this
 rw [show ((mget l k).map ev6).getD (.int .i64 0) = .int .i64 ((mget l k).getD 0) by cases mget l k <;> rfl] at this
 exact this
theorem M6.miss (h : M6 u b []) (k : Int) (hk : ok6 k) : (Instr.lookup 104 (.map (some b)) (.int .i64 k) true).run Tryz.prog u = .ok (.tuple #[.int .i64 0, .bool false]) u := h.look k hk
theorem M6.hit (h : M6 u b l) (k : Int) (hk : ok6 k) {a : Int} (hg : mget l k = some a) : (Instr.lookup 104 (.map (some b)) (.int .i64 k) true).run Tryz.prog u = .ok (.tuple #[.int .i64 a, .bool true]) u := by
 rw [h.look k hk, hg]
 rfl
theorem M6.lack (h : M6 u b l) (k : Int) (hk : ok6 k) (hg : mget l k = none) : (Instr.lookup 104 (.map (some b)) (.int .i64 k) true).run Tryz.prog u = .ok (.tuple #[.int .i64 0, .bool false]) u := by
 rw [h.look k hk, hg]
 rfl
theorem M6.put (h : M6 u b l) (k : Int) (hk : ok6 k) (n : Int) : ∃ w', (Instr.mapUpdate 104 (.map (some b)) (.int .i64 k) (.int .i64 n)).run Tryz.prog u = .ok () w' ∧ M6 w' b (mput l k n) ∧ u.grownBy w' (some b) ∧ w'.heap.size = u.heap.size := by
 obtain ⟨w', h1, h2, h3, h4⟩ := MapAt.update (P := Tryz.prog) (t := 104) KE6 Tryz.underlying104 h.map h.ok (k := k) hk n
 exact ⟨w', h1, ⟨h2, m6_keys h.ok hk⟩, h3, h4⟩
theorem M6.put2 (h : M6 u b l) (k : Int) (hk : ok6 k) (n : Int) : ∃ w', (Instr.mapUpdate 212 (.map (some b)) (.int .i64 k) (.int .i64 n)).run Tryz.prog u = .ok () w' ∧ M6 w' b (mput l k n) ∧ u.grownBy w' (some b) ∧ w'.heap.size = u.heap.size := by
 obtain ⟨w', h1, h2, h3, h4⟩ := MapAt.update (P := Tryz.prog) (t := 212) KE6 Tryz.underlying212 h.map h.ok (k := k) hk n
 exact ⟨w', h1, ⟨h2, m6_keys h.ok hk⟩, h3, h4⟩
end
end Go.Proofs.YtjdnigepnfeboaaGreatDoor
