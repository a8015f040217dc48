import Derived.Test.YtiffopheamnngaaGreatDoorJT03
import Derived.DeepKeys4
namespace Go.Proofs.YtiffopheamnngaaGreatDoor
open Go.RowKit
inductive TermS (w : World) (S : Nat → Prop) : TV → Tm → Prop
 | mk (x : TV) (args : List Tm) (xs : List TV) (h1 : xs.length = x.len) (h2 : args.length = x.len) (h3 : x.s.length ≤ maxLen)
     (hc : ∀ (i : Nat) (y : TV), xs[i]? = some y → ∃ b off, x.A = some ⟨b, off, none⟩ ∧ S b ∧ ∀ (j : Nat) u, (encTV y)[j]? = some u → w.cell? ⟨b, off + i * 4 + j, none⟩ = some u)
     (ht : ∀ (i : Nat) (y : TV) (t : Tm), xs[i]? = some y → args[i]? = some t → TermS w S y t) : TermS w S x (.mk x.k x.n x.s args)
section
variable {w w' : World} {S S' : Nat → Prop} {x : TV} {t : Tm}
theorem TermS.keep (h : TermS w S x t) (hS : ∀ b, S b → S' b) (hb : ∀ b, S b → w'.heap[b]? = w.heap[b]?) : TermS w' S' x t := by
 induction h with
 | mk x args xs h1 h2 h3 hc ht ih =>
  refine .mk x args xs h1 h2 h3 (fun i y hy => ?_) ih
  obtain ⟨b, off, e1, e2, e3⟩ := hc i y hy
  exact ⟨b, off, e1, hS b e2, fun j u hu => (World.cell?_of_block (a := ⟨b, off + i * 4 + j, none⟩) (hb b e2)).trans (e3 j u hu)⟩
theorem TermS.at (h : TermS w S x t) {B : Nat} (hS : ∀ b, S b → b < B) : TermAt w B x t := by
 induction h with
 | mk x args xs h1 h2 h3 hc ht ih =>
  refine .mk x args xs h1 h2 h3 (fun i y hy => ?_) ih
  obtain ⟨b, off, e1, e2, e3⟩ := hc i y hy
  exact ⟨b, off, e1, hS b e2, e3⟩
theorem TermS.leaf (w : World) (S : Nat → Prop) (k n : Int) (s : List UInt8) (A : Option Addr) (c : Nat) (hs : s.length ≤ maxLen) : TermS w S ⟨k, n, s, A, 0, c⟩ (.mk k n s []) :=
 .mk ⟨k, n, s, A, 0, c⟩ [] [] rfl rfl hs (fun i y h => by simp at h) (fun i y t h => by simp at h)
def TermsS (w : World) (S : Nat → Prop) (xs : List TV) (l : List Tm) : Prop := xs.length = l.length ∧ ∀ (i : Nat) (y : TV) (t : Tm), xs[i]? = some y → l[i]? = some t → TermS w S y t
theorem TermsS.nil (w : World) (S : Nat → Prop) : TermsS w S [] [] := ⟨rfl, fun i y t h => by simp at h⟩
theorem TermsS.keep {xs : List TV} {l : List Tm} (h : TermsS w S xs l) (hS : ∀ b, S b → S' b) (hb : ∀ b, S b → w'.heap[b]? = w.heap[b]?) : TermsS w' S' xs l :=
 ⟨h.1, fun i y t h1 h2 => (h.2 i y t h1 h2).keep hS hb⟩
theorem TermsS.snoc {xs : List TV} {l : List Tm} (h : TermsS w S xs l) (hx : TermS w S x t) : TermsS w S (xs ++ [x]) (l ++ [t]) := by
 refine ⟨by rw [List.length_append, List.length_append, h.1]; rfl, fun i y u h1 h2 => ?_⟩
 by_cases hi : i < xs.length
 ·rw [List.getElem?_append_left hi] at h1
  rw [List.getElem?_append_left (by rw [← h.1]; exact hi)] at h2
  exact h.2 i y u h1 h2
 ·have hi2 : i = xs.length := by
   have := (List.getElem?_eq_some_iff.1 h1).1
   simp at this
   omega
  subst hi2
  rw [List.getElem?_append_right (Nat.le_refl _), Nat.sub_self] at h1
  rw [h.1, List.getElem?_append_right (Nat.le_refl _), Nat.sub_self] at h2
  have e1 : x = y := by simpa using h1
  have e2 : t = u := by simpa using h2
  subst e1 e2
  exact hx
theorem TermsS.comp {B : Nat} {v : Value} {xs : List TV} {l : List Tm} {A : Option Addr} {n c : Nat} (h : TermsS w S xs l) (hr : Row w B 34 4 encTV v xs) (hv : v = .slice A n c) (hS : ∀ g, v.ownBlock = some g → S g) (s : List UInt8) (hs : s.length ≤ maxLen) (k m : Int) :
    TermS w S ⟨k, m, s, A, n, c⟩ (.mk k m s l) := by
 subst hv
 have hlen : n = xs.length := hr.len
 refine .mk ⟨k, m, s, A, n, c⟩ l xs hlen.symm (by rw [← h.1, hlen]) hs (fun i y hy => ?_) h.2
 obtain ⟨g, cap, e1, _, _, _, hc⟩ := hr.cells encTV_len (by rintro rfl; cases hy)
 injection e1 with e1 e2 e3
 refine ⟨g, 0, e1, hS g (by rw [e1]; rfl), fun j u hu => ?_⟩
 rw [Nat.zero_add]
 exact (hc i y hy j u hu).1
theorem TermsS.block {xs : List TV} {l : List Tm} {g : Nat} (h : TermsS w S xs l) (hg : w.heap[g]? = some (.cells (xs.flatMap encTV).toArray 34 (0, 0))) (hS : S g) (s : List UInt8) (hs : s.length ≤ maxLen) (k m : Int) (c : Nat) :
    TermS w S ⟨k, m, s, some ⟨g, 0, none⟩, xs.length, c⟩ (.mk k m s l) := by
 refine .mk ⟨k, m, s, some ⟨g, 0, none⟩, xs.length, c⟩ l xs rfl h.1.symm hs (fun i y hy => ⟨g, 0, rfl, hS, fun j u hu => ?_⟩) h.2
 rw [Nat.zero_add, cell_of_row w g (i * 4 + j) _ _ (0, 0) hg]
 have := flatMap_get encTV_len xs i j y u hy hu
 simpa using this
end
end Go.Proofs.YtiffopheamnngaaGreatDoor
namespace Go.Proofs.YtiffopheamnngaaGreatDoor
open Go.RowKit Go.Maps
open Go.MapKept (Stamped)
section
variable {κ ν : Type} [DecidableEq κ]
def mget (l : List (κ × ν)) (k : κ) : Option ν := (l.find? (fun x => decide (x.1 = k))).map (·.2)
def mput (l : List (κ × ν)) (k : κ) (v : ν) : List (κ × ν) :=
 if (mget l k).isSome then l.map (fun x => if x.1 = k then (k, v) else x) else l ++ [(k, v)]
def mdel (l : List (κ × ν)) (k : κ) : List (κ × ν) := l.filter (fun x => decide (x.1 ≠ k))
theorem mget_none {l : List (κ × ν)} {k : κ} (h : ∀ x ∈ l, x.1 ≠ k) : mget l k = none := by
 unfold mget
 rw [List.find?_eq_none.2]
 ·rfl
 ·intro x hx; simpa using h x hx
theorem mget_some_of {l : List (κ × ν)} {k : κ} {v : ν} (hd : (l.map (·.1)).Nodup) (h : (k, v) ∈ l) : mget l k = some v := by
 induction l with
 | nil => cases h
 | cons y r ih =>
  simp only [List.map_cons, List.nodup_cons] at hd
  rcases List.mem_cons.1 h with rfl | h
  ·simp [mget]
  ·have : y.1 ≠ k := fun e => hd.1 (by rw [e]; exact List.mem_map.2 ⟨_, h, rfl⟩)
   have := ih hd.2 h
   simp only [mget] at this ⊢
   simp [*]
theorem mget_mem {l : List (κ × ν)} {k : κ} {v : ν} (h : mget l k = some v) : (k, v) ∈ l := by
 unfold mget at h
 obtain ⟨x, hx, rfl⟩ := Option.map_eq_some_iff.1 h
 have h1 := List.mem_of_find?_eq_some hx
 have h2 := List.find?_some hx
 simp at h2
 subst h2
 exact h1
theorem mget_eq_none {l : List (κ × ν)} {k : κ} (h : mget l k = none) : ∀ x ∈ l, x.1 ≠ k := by
 intro x hx e
 unfold mget at h
 simp only [Option.map_eq_none_iff, List.find?_eq_none] at h
 exact h x hx (by simpa using e)
end
structure KE (P : Program) (kt : TypeId) {κ : Type} (ek : κ → Value) (okk : κ → Prop) : Prop where
 keyed : Keyed P kt
 lit : ∀ k, okk k → ∃ l, keyOf P kt (ek k) = some l
 inj : ∀ a b, ek a = ek b → a = b
structure MapAt (w : World) (b : Nat) {κ ν : Type} (ek : κ → Value) (ev : ν → Value) (l : List (κ × ν)) : Prop where
 blk : ∃ es clock, w.heap[b]? = some (.map es clock) ∧ es.toList.map (fun e => (e.key, e.val)) = l.map (fun x => (ek x.1, ev x.2)) ∧ Stamped es clock
 nodup : (l.map (·.1)).Nodup
section
variable {P : Program} {w w' : World} {kt et t ty : TypeId} {κ ν : Type} {ek : κ → Value} {ev : ν → Value} {okk : κ → Prop} {l : List (κ × ν)} {b : Nat}
theorem MapAt.lt (h : MapAt w b ek ev l) : b < w.heap.size := by
 obtain ⟨es, clock, hb, _⟩ := h.blk
 exact (Array.getElem?_eq_some_iff.1 hb).1
theorem MapAt.keep (h : MapAt w b ek ev l) (hb : w'.heap[b]? = w.heap[b]?) : MapAt w' b ek ev l :=
 ⟨by rw [hb]; exact h.blk, h.nodup⟩
theorem MapAt.alloc (h : MapAt w b ek ev l) (o : Obj) : MapAt (w.alloc o) b ek ev l := h.keep (Below.heap_alloc w o b h.lt)
theorem MapAt.drew (h : MapAt w b ek ev l) : MapAt w.drew b ek ev l := h.keep rfl
theorem MapAt.below {B : Nat} (h : MapAt w b ek ev l) (hb : Below B w w') (hB : b < B) : MapAt w' b ek ev l := h.keep (hb.block b hB)
theorem MapAt.setCell (h : MapAt w b ek ev l) {p : Addr} (hp : b ≠ p.block) (u : Value) : MapAt (w.setCell p u) b ek ev l := h.keep (Below.heap_setCell w p u b hp)
theorem MapAt.made (w : World) : MapAt (w.alloc (.map #[] 0)) w.heap.size ek ev ([] : List (κ × ν)) :=
 ⟨⟨#[], 0, heap_alloc_new w _, rfl, MapKept.stamped_empty 0⟩, by simp⟩
theorem entry_at {es : Array MapEntry} (h : es.toList.map (fun e => (e.key, e.val)) = l.map (fun x => (ek x.1, ev x.2))) {j : Nat} {e : MapEntry} (hj : es.toList[j]? = some e) :
    ∃ x, l[j]? = some x ∧ e.key = ek x.1 ∧ e.val = ev x.2 := by
 have := congrArg (fun z => z[j]?) h
 simp only [List.getElem?_map, hj, Option.map_some] at this
 cases hx : l[j]? with
 | none => rw [hx] at this; cases this
 | some x =>
  rw [hx] at this
  simp only [Option.map_some, Option.some.injEq, Prod.mk.injEq] at this
  exact ⟨x, rfl, this.1, this.2⟩
theorem MapAt.len (ht : P.underlying t = some (.map kt et)) (h : MapAt w b ek ev l) : (Builtin.len_ #[t] ty #[.map (some b)]).run P w = .ok (goInt l.length) w := by
 obtain ⟨es, clock, hb, hl, hs⟩ := h.blk
 have hg := MapKept.run_getObj_map (P := P) hb
 have e : es.size = l.length := by simpa using congrArg List.length hl
 simp [Builtin.len_, run_underlying ht, hg, e, Result.andThen]
theorem grownBy_setObj (w : World) (b : Nat) (o : Obj) : w.grownBy { w with heap := w.heap.setIfInBounds b o } (some b) :=
 ⟨rfl, rfl, rfl, by simp, fun k _ hk => by
  have : b ≠ k := fun e => hk (by rw [e])
  simp [this]⟩
variable [DecidableEq κ]
theorem MapAt.found (K : KE P kt ek okk) (hok : ∀ x ∈ l, okk x.1) {es : Array MapEntry} (hl : es.toList.map (fun e => (e.key, e.val)) = l.map (fun x => (ek x.1, ev x.2))) (hd : (l.map (·.1)).Nodup) (w : World) {k : κ} (hk : okk k) :
    ((Instr.findKey kt (ek k) es.toList).run P w = .ok none w ∧ (∀ e ∈ es.toList, e.key ≠ ek k) ∧ mget l k = none) ∨
    ∃ j e x, (Instr.findKey kt (ek k) es.toList).run P w = .ok (some (j, e.val)) w ∧ es.toList[j]? = some e ∧ e.key = ek k ∧ l[j]? = some x ∧ x.1 = k ∧ e.val = ev x.2 ∧ mget l k = some x.2 := by
 obtain ⟨lk, hlk⟩ := K.lit k hk
 have hkeys : ∀ e ∈ es.toList, ∃ l, keyOf P kt e.key = some l := by
  intro e he
  obtain ⟨j, hj⟩ := List.getElem?_of_mem he
  obtain ⟨x, hx, h1, _⟩ := entry_at hl hj
  rw [h1]
  exact K.lit _ (hok _ (List.mem_of_getElem? hx))
 rcases K.keyed.find w hlk es.toList hkeys with ⟨h1, h2⟩ | ⟨j, e, h1, h2, h3⟩
 ·refine .inl ⟨h1, h2, mget_none ?_⟩
  intro x hx e
  obtain ⟨j, hj⟩ := List.getElem?_of_mem hx
  have := congrArg (fun z => z[j]?) hl
  simp only [List.getElem?_map, hj, Option.map_some] at this
  cases he : es.toList[j]? with
  | none => rw [he] at this; cases this
  | some y =>
   rw [he] at this
   simp only [Option.map_some, Option.some.injEq, Prod.mk.injEq] at this
   exact h2 y (List.mem_of_getElem? he) (by rw [this.1, e])
 ·obtain ⟨x, hx, h4, h5⟩ := entry_at hl h2
  have hxk : x.1 = k := K.inj _ _ (h4.symm.trans h3)
  refine .inr ⟨j, e, x, h1, h2, h3, hx, hxk, h5, mget_some_of hd ?_⟩
  rw [← hxk]
  exact List.mem_of_getElem? hx
theorem MapAt.lookup (K : KE P kt ek okk) (ht : P.underlying t = some (.map kt et)) {z : Value} (hz : ∀ u : World, (zeroValue et).run P u = .ok z u) (h : MapAt w b ek ev l) (hok : ∀ x ∈ l, okk x.1) {k : κ} (hk : okk k) (c : Bool) :
    (Instr.lookup t (.map (some b)) (ek k) c).run P w = .ok (if c then .tuple #[((mget l k).map ev).getD z, .bool (mget l k).isSome] else ((mget l k).map ev).getD z) w := by
 obtain ⟨es, clock, hb, hl, hs⟩ := h.blk
 obtain ⟨lk, hlk⟩ := K.lit k hk
 have hg := MapKept.run_getObj_map (P := P) hb
 have hc := K.keyed.check w es.isEmpty hlk
 rcases MapAt.found K hok hl h.nodup w hk with ⟨h1, _, h3⟩ | ⟨j, e, x, h1, _, _, _, _, h5, h6⟩
 ·cases c <;> simp [Instr.lookup, run_underlying ht, hg, hc, h1, hz, h3, Result.andThen]
 ·cases c <;> simp [Instr.lookup, run_underlying ht, hg, hc, h1, h5, h6, Result.andThen]
theorem mput_keys (l : List (κ × ν)) (k : κ) (v : ν) : (mput l k v).map (·.1) = if (mget l k).isSome then l.map (·.1) else l.map (·.1) ++ [k] := by
 unfold mput
 split
 ·rw [List.map_map]
  refine List.map_congr_left fun x _ => ?_
  simp only [Function.comp_apply]
  split
  ·rename_i h; exact h.symm
  ·rfl
 ·simp
theorem mput_nodup {l : List (κ × ν)} (hd : (l.map (·.1)).Nodup) (k : κ) (v : ν) : ((mput l k v).map (·.1)).Nodup := by
 rw [mput_keys]
 split
 ·exact hd
 ·rename_i h
  have hn : mget l k = none := by simpa using h
  refine List.nodup_append.2 ⟨hd, by simp, ?_⟩
  intro a ha c hc
  simp only [List.mem_singleton] at hc
  subst hc
  obtain ⟨x, hx, rfl⟩ := List.mem_map.1 ha
  exact mget_eq_none hn x hx
theorem MapAt.update (K : KE P kt ek okk) (ht : P.underlying t = some (.map kt et)) (h : MapAt w b ek ev l) (hok : ∀ x ∈ l, okk x.1) {k : κ} (hk : okk k) (v : ν) :
    ∃ w', (Instr.mapUpdate t (.map (some b)) (ek k) (ev v)).run P w = .ok () w' ∧ MapAt w' b ek ev (mput l k v) ∧ w.grownBy w' (some b) ∧ w'.heap.size = w.heap.size := by
 obtain ⟨es, clock, hb, hl, hs⟩ := h.blk
 obtain ⟨lk, hlk⟩ := K.lit k hk
 have hg := MapKept.run_getObj_map (P := P) hb
 have hc := K.keyed.check w false hlk
 have hlt := h.lt
 rcases MapAt.found K hok hl h.nodup w hk with ⟨h1, h2, h3⟩ | ⟨j, e, x, h1, h2, h4, hx, hxk, h5, h6⟩
 ·refine ⟨{ w with heap := w.heap.setIfInBounds b (.map (es.push { key := ek k, val := ev v, born := clock }) (clock + 1)) }, ?_, ⟨⟨es.push { key := ek k, val := ev v, born := clock }, clock + 1, by simp [hlt], ?_, MapKept.stamped_push hs (fun x hx => h2 x hx)⟩, mput_nodup h.nodup k v⟩, grownBy_setObj _ _ _, by simp⟩
  ·simp [Instr.mapUpdate, run_underlying ht, hg, hc, h1, MapKept.run_setObj_map _ hb, Result.andThen]
  ·simp [mput, h3, hl]
 ·have hst := K.keyed.stays w hlk
  have hes : es[j]? = some e := by simpa using h2
  refine ⟨{ w with heap := w.heap.setIfInBounds b (.map (es.modify j fun e => { e with key := ek k, val := ev v }) clock) }, ?_, ⟨⟨es.modify j fun e => { e with key := ek k, val := ev v }, clock, by simp [hlt], ?_, MapKept.stamped_modify hs j _ (fun _ _ => rfl) (fun e' _ he' => ?_)⟩, mput_nodup h.nodup k v⟩, grownBy_setObj _ _ _, by simp⟩
  ·simp [Instr.mapUpdate, run_underlying ht, hg, hc, h1, hes, h4, hst, MapKept.run_setObj_map _ hb, Result.andThen]
  ·have hu : mput l k v = l.modify j (fun _ => (k, v)) := by
    unfold mput
    rw [if_pos (by simp [h6])]
    apply List.ext_getElem?
    intro i
    rw [List.getElem?_modify, List.getElem?_map]
    by_cases hij : j = i
    ·subst hij; simp [hx, hxk]
    ·cases hi : l[i]? with
     | none => rfl
     | some y =>
      have hne : y.1 ≠ k := by
       intro e1
       have hnd := h.nodup
       unfold List.Nodup at hnd
       rw [List.pairwise_iff_getElem] at hnd
       obtain ⟨hil, hiy⟩ := List.getElem?_eq_some_iff.1 hi
       obtain ⟨hjl, hjx⟩ := List.getElem?_eq_some_iff.1 hx
       rcases Nat.lt_or_gt_of_ne hij with hlt' | hlt'
       ·exact hnd j i (by simpa using hjl) (by simpa using hil) hlt' (by simp [hiy, hjx, e1, hxk])
       ·exact hnd i j (by simpa using hil) (by simpa using hjl) hlt' (by simp [hiy, hjx, e1, hxk])
      simp [hne, hij]
   rw [hu]
   simp only [Array.toList_modify]
   apply List.ext_getElem?
   intro i
   have hli := congrArg (fun z => z[i]?) hl
   simp only [List.getElem?_map] at hli
   simp only [List.getElem?_map, List.getElem?_modify]
   by_cases hij : j = i
   ·subst hij
    simp [hes, hx]
   ·cases hi : es.toList[i]? <;> cases hi' : l[i]? <;> rw [hi, hi'] at hli <;> simp_all
  ·rw [hes] at he'
   cases he'
   exact h4.symm
theorem MapKept_eraseIdx_map {α β : Type} (f : α → β) (l : List α) (i : Nat) : (l.eraseIdx i).map f = (l.map f).eraseIdx i := by
 induction l generalizing i with
 | nil => rfl
 | cons a r ih => cases i with
  | zero => rfl
  | succ i => simp [ih]
theorem filter_ne_of_nodup {l : List (κ × ν)} (hd : (l.map (·.1)).Nodup) {j : Nat} {x : κ × ν} (hx : l[j]? = some x) : mdel l x.1 = l.eraseIdx j := by
 induction l generalizing j with
 | nil => simp at hx
 | cons y r ih =>
  simp only [List.map_cons, List.nodup_cons] at hd
  cases j with
  | zero =>
   simp at hx
   subst hx
   have : ∀ z ∈ r, z.1 ≠ y.1 := fun z hz e => hd.1 (by rw [← e]; exact List.mem_map.2 ⟨_, hz, rfl⟩)
   unfold mdel
   rw [List.filter_cons_of_neg (by simp)]
   rw [List.filter_eq_self.2 (by intro z hz; simpa using this z hz)]
   rfl
  | succ j =>
   simp at hx
   have hne : y.1 ≠ x.1 := fun e => hd.1 (by rw [e]; exact List.mem_map.2 ⟨_, List.mem_of_getElem? hx, rfl⟩)
   have := ih hd.2 hx
   unfold mdel at this ⊢
   rw [List.filter_cons_of_pos (by simpa using hne), this]
   rfl
theorem mdel_nodup {l : List (κ × ν)} (hd : (l.map (·.1)).Nodup) (k : κ) : ((mdel l k).map (·.1)).Nodup :=
 List.Nodup.sublist (List.Sublist.map _ List.filter_sublist) hd
theorem MapAt.delete (K : KE P kt ek okk) (ht : P.underlying t = some (.map kt et)) (h : MapAt w b ek ev l) (hok : ∀ x ∈ l, okk x.1) {k : κ} (hk : okk k) (t2 : TypeId) :
    ∃ w', (Builtin.delete_ #[t, t2] ty #[.map (some b), ek k]).run P w = .ok (.tuple #[]) w' ∧ MapAt w' b ek ev (mdel l k) ∧ w.grownBy w' (some b) ∧ w'.heap.size = w.heap.size := by
 obtain ⟨es, clock, hb, hl, hs⟩ := h.blk
 obtain ⟨lk, hlk⟩ := K.lit k hk
 have hg := MapKept.run_getObj_map (P := P) hb
 have hc := K.keyed.check w es.isEmpty hlk
 have hlt := h.lt
 rcases MapAt.found K hok hl h.nodup w hk with ⟨h1, h2, h3⟩ | ⟨j, e, x, h1, h2, h4, hx, hxk, h5, h6⟩
 ·have hm : mdel l k = l := List.filter_eq_self.2 (by intro z hz; simpa using mget_eq_none h3 z hz)
  refine ⟨{ w with heap := w.heap.setIfInBounds b (.map es clock) }, ?_, ⟨⟨es, clock, by simp [hlt], by rw [hm]; exact hl, hs⟩, mdel_nodup h.nodup k⟩, grownBy_setObj _ _ _, by simp⟩
  simp [Builtin.delete_, run_underlying ht, hg, hc, h1, MapKept.run_setObj_map _ hb, Result.andThen]
 ·have hes : es[j]? = some e := by simpa using h2
  refine ⟨{ w with heap := w.heap.setIfInBounds b (.map (es.eraseIdxIfInBounds j) clock) }, ?_, ⟨⟨_, _, by simp [hlt], ?_, MapKept.stamped_erase hs j⟩, mdel_nodup h.nodup k⟩, grownBy_setObj _ _ _, by simp⟩
  ·simp [Builtin.delete_, run_underlying ht, hg, hc, h1, MapKept.run_setObj_map _ hb, Result.andThen]
  ·subst hxk
   rw [filter_ne_of_nodup h.nodup hx]
   have hj : j < es.size := (Array.getElem?_eq_some_iff.1 hes).1
   have : (es.eraseIdxIfInBounds j).toList = es.toList.eraseIdx j := by
    simp [Array.eraseIdxIfInBounds, hj]
   rw [this, MapKept_eraseIdx_map, MapKept_eraseIdx_map, hl]
end
end Go.Proofs.YtiffopheamnngaaGreatDoor
namespace Go.Proofs.YtiffopheamnngaaGreatDoor
open Go.RowKit Go.Maps
set_option maxRecDepth 100000
abbrev OpK := Int × List UInt8
abbrev OpV := Int × Int
def opk (k : OpK) : Value := .agg #[.int .i64 k.1, .string ⟨k.2.toArray⟩]
def opv (v : OpV) : Value := .agg #[.int .i64 v.1, .int .i64 v.2]
def okOpK (k : OpK) : Prop := (-9223372036854775808 ≤ k.1 ∧ k.1 ≤ 9223372036854775807) ∧ k.2.length ≤ maxLen
theorem opk_inj (a b : OpK) (h : opk a = opk b) : a = b := by
 obtain ⟨a1, a2⟩ := a
 obtain ⟨b1, b2⟩ := b
 simp [opk] at h
 rw [h.1, h.2]
theorem tabLaid : laidOutB Tryz.prog = true := by kernel_rfl
theorem keyRow : (98 : TypeId) < Tryz.prog.types.size := of_decide_eq_true (by kernel_rfl)
theorem keyWide : (match Tryz.prog.underlying 98 with | some (.array _ _) | some (.struct _) => true | _ => false) = true := by kernel_rfl
theorem keyLaw : WideMaps.KeyLaw Tryz.prog 98 := deep_law_laid tabLaid (m := 2) (by omega) keyRow (by kernel_rfl) keyWide
theorem keyIs : Tryz.prog.keyType 98 = true := by kernel_rfl
theorem keyFields : ∃ f g, Tryz.prog.underlying 98 = some (.struct #[f, g]) ∧ f.type = 3 ∧ g.type = 9 ∧ f.offset = 0 ∧ g.offset = 1 ∧ (f.name != "_") = true ∧ (g.name != "_") = true := ⟨_, _, Tryz.underlying98, rfl, rfl, rfl, rfl, by decide, by decide⟩
theorem keyCells : Tryz.prog.cellsOf 98 = 2 := by kernel_rfl
theorem intCells : Tryz.prog.cellsOf 3 = 1 := by kernel_rfl
theorem stringCells : Tryz.prog.cellsOf 9 = 1 := by kernel_rfl
theorem typesPos : ∃ m, Tryz.prog.types.size = m + 1 := ⟨Tryz.prog.types.size - 1, (Nat.succ_pred_eq_of_pos (Nat.lt_of_le_of_lt (Nat.zero_le _) keyRow)).symm⟩
theorem int_wf {a : Int} (h1 : -9223372036854775808 ≤ a) (h2 : a ≤ 9223372036854775807) : (Lit.int .i64 a).wf = true := by
 have e1 : IntKind.i64.min = -9223372036854775808 := by decide
 have e2 : IntKind.i64.max = 9223372036854775807 := by decide
 simp only [Lit.wf, Bool.and_eq_true, e1, e2]
 exact ⟨decide_eq_true h1, decide_eq_true h2⟩
theorem keyReads (k : OpK) (h : okOpK k) : ∃ l, keyOf Tryz.prog 98 (opk k) = some l := by
 obtain ⟨f, g, hu, f1, g1, f2, g2, f3, g3⟩ := keyFields
 obtain ⟨m, hm⟩ := typesPos
 obtain ⟨⟨h1, h2⟩, h3⟩ := h
 have hw := int_wf h1 h2
 unfold keyOf
 simp only [hu]
 rw [if_pos (by simp [keyIs, opk, Value.formed, hu, keyCells]), hm]
 refine ⟨.string (keyBytes [.int .i64 k.1, .string k.2]), ?_⟩
 unfold Program.keyLits
 simp only [hu, opk, Value.cells]
 rw [if_pos ⟨by rw [keyCells]; rfl, by simp [f3, g3]⟩]
 simp only [List.mapM_cons, List.mapM_nil, f1, g1, f2, g2, intCells, stringCells]
 simp [Program.keyLits, Tryz.underlying3, Tryz.underlying9, hw, ByteArray.size, h3]
theorem opKE : KE Tryz.prog 98 opk okOpK := ⟨Keyed.of_law keyLaw, keyReads, opk_inj⟩
end Go.Proofs.YtiffopheamnngaaGreatDoor
