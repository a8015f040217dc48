import Derived.Maps.Keyed
import Derived.WalkKit
import Derived.DeepKeys4
import Derived.Deep.Draws
import Derived.Test.YtcallkljcjimiaaGreatDoorProg
import Derived.KernelRfl
import Derived.WalkSpells
import Derived.WalkSmall
import Derived.Deep.QuietTactic
import Derived.BigQuiet
import Derived.Handy
namespace Go.Proofs.YtcallkljcjimiaaGreatDoor
open Go.RowKit Go.Maps
open Go.MapKept (Stamped)
section
variable {κ ν : Type} [DecidableEq κ]
def mget (l : List (κ × ν)) (k : κ) : Option ν := (l.find? (fun x => decide (x.1 = k))).map (·.2)
def mput (l : List (κ × ν)) (k : κ) (v : ν) : List (κ × ν) :=
 if (mget l k).isSome then l.map (fun x => if x.1 = k then (k, v) else x) else l ++ [(k, v)]
def mdel (l : List (κ × ν)) (k : κ) : List (κ × ν) := l.filter (fun x => decide (x.1 ≠ k))
theorem mget_none {l : List (κ × ν)} {k : κ} (h : ∀ x ∈ l, x.1 ≠ k) : mget l k = none := by
 unfold mget
 rw [List.find?_eq_none.2]
 ·rfl
 ·intro x hx; simpa using h x hx
theorem mget_some_of {l : List (κ × ν)} {k : κ} {v : ν} (hd : (l.map (·.1)).Nodup) (h : (k, v) ∈ l) : mget l k = some v := by
 induction l with
 | nil => cases h
 | cons y r ih =>
  simp only [List.map_cons, List.nodup_cons] at hd
  rcases List.mem_cons.1 h with rfl | h
  ·simp [mget]
  ·have : y.1 ≠ k := fun e => hd.1 (by rw [e]; exact List.mem_map.2 ⟨_, h, rfl⟩)
   have := ih hd.2 h
   simp only [mget] at this ⊢
   simp [*]
theorem mget_mem {l : List (κ × ν)} {k : κ} {v : ν} (h : mget l k = some v) : (k, v) ∈ l := by
 unfold mget at h
 obtain ⟨x, hx, rfl⟩ := Option.map_eq_some_iff.1 h
 have h1 := List.mem_of_find?_eq_some hx
 have h2 := List.find?_some hx
 simp at h2
 subst h2
 exact h1
theorem mget_eq_none {l : List (κ × ν)} {k : κ} (h : mget l k = none) : ∀ x ∈ l, x.1 ≠ k := by
 intro x hx e
 unfold mget at h
 simp only [Option.map_eq_none_iff, List.find?_eq_none] at h
 exact h x hx (by simpa using e)
end
structure KE (P : Program) (kt : TypeId) {κ : Type} (ek : κ → Value) (okk : κ → Prop) : Prop where
 keyed : Keyed P kt
 lit : ∀ k, okk k → ∃ l, keyOf P kt (ek k) = some l
 inj : ∀ a b, ek a = ek b → a = b
structure MapAt (w : World) (b : Nat) {κ ν : Type} (ek : κ → Value) (ev : ν → Value) (l : List (κ × ν)) : Prop where
 blk : ∃ es clock, w.heap[b]? = some (.map es clock) ∧ es.toList.map (fun e => (e.key, e.val)) = l.map (fun x => (ek x.1, ev x.2)) ∧ Stamped es clock
 nodup : (l.map (·.1)).Nodup
section
variable {P : Program} {w w' : World} {kt et t ty : TypeId} {κ ν : Type} {ek : κ → Value} {ev : ν → Value} {okk : κ → Prop} {l : List (κ × ν)} {b : Nat}
theorem MapAt.lt (h : MapAt w b ek ev l) : b < w.heap.size := by
 obtain ⟨es, clock, hb, _⟩ := h.blk
 exact (Array.getElem?_eq_some_iff.1 hb).1
theorem MapAt.keep (h : MapAt w b ek ev l) (hb : w'.heap[b]? = w.heap[b]?) : MapAt w' b ek ev l :=
 ⟨by rw [hb]; exact h.blk, h.nodup⟩
theorem MapAt.alloc (h : MapAt w b ek ev l) (o : Obj) : MapAt (w.alloc o) b ek ev l := h.keep (Below.heap_alloc w o b h.lt)
theorem MapAt.drew (h : MapAt w b ek ev l) : MapAt w.drew b ek ev l := h.keep rfl
theorem MapAt.below {B : Nat} (h : MapAt w b ek ev l) (hb : Below B w w') (hB : b < B) : MapAt w' b ek ev l := h.keep (hb.block b hB)
theorem MapAt.setCell (h : MapAt w b ek ev l) {p : Addr} (hp : b ≠ p.block) (u : Value) : MapAt (w.setCell p u) b ek ev l := h.keep (Below.heap_setCell w p u b hp)
theorem MapAt.made (w : World) : MapAt (w.alloc (.map #[] 0)) w.heap.size ek ev ([] : List (κ × ν)) :=
 ⟨⟨#[], 0, heap_alloc_new w _, rfl, MapKept.stamped_empty 0⟩, by simp⟩
theorem entry_at {es : Array MapEntry} (h : es.toList.map (fun e => (e.key, e.val)) = l.map (fun x => (ek x.1, ev x.2))) {j : Nat} {e : MapEntry} (hj : es.toList[j]? = some e) :
    ∃ x, l[j]? = some x ∧ e.key = ek x.1 ∧ e.val = ev x.2 := by
 have := congrArg (fun z => z[j]?) h
 simp only [List.getElem?_map, hj, Option.map_some] at this
 cases hx : l[j]? with
 | none => rw [hx] at this; cases this
 | some x =>
  rw [hx] at this
  simp only [Option.map_some, Option.some.injEq, Prod.mk.injEq] at this
  exact ⟨x, rfl, this.1, this.2⟩
theorem MapAt.len (ht : P.underlying t = some (.map kt et)) (h : MapAt w b ek ev l) : (Builtin.len_ #[t] ty #[.map (some b)]).run P w = .ok (goInt l.length) w := by
 obtain ⟨es, clock, hb, hl, hs⟩ := h.blk
 have hg := MapKept.run_getObj_map (P := P) hb
 have e : es.size = l.length := by simpa using congrArg List.length hl
 simp [Builtin.len_, run_underlying ht, hg, e, Result.andThen]
theorem grownBy_setObj (w : World) (b : Nat) (o : Obj) : w.grownBy { w with heap := w.heap.setIfInBounds b o } (some b) :=
 ⟨rfl, rfl, rfl, by simp, fun k _ hk => by
  have : b ≠ k := fun e => hk (by rw [e])
  simp [this]⟩
variable [DecidableEq κ]
theorem MapAt.found (K : KE P kt ek okk) (hok : ∀ x ∈ l, okk x.1) {es : Array MapEntry} (hl : es.toList.map (fun e => (e.key, e.val)) = l.map (fun x => (ek x.1, ev x.2))) (hd : (l.map (·.1)).Nodup) (w : World) {k : κ} (hk : okk k) :
    ((Instr.findKey kt (ek k) es.toList).run P w = .ok none w ∧ (∀ e ∈ es.toList, e.key ≠ ek k) ∧ mget l k = none) ∨
    ∃ j e x, (Instr.findKey kt (ek k) es.toList).run P w = .ok (some (j, e.val)) w ∧ es.toList[j]? = some e ∧ e.key = ek k ∧ l[j]? = some x ∧ x.1 = k ∧ e.val = ev x.2 ∧ mget l k = some x.2 := by
 obtain ⟨lk, hlk⟩ := K.lit k hk
 have hkeys : ∀ e ∈ es.toList, ∃ l, keyOf P kt e.key = some l := by
  intro e he
  obtain ⟨j, hj⟩ := List.getElem?_of_mem he
  obtain ⟨x, hx, h1, _⟩ := entry_at hl hj
  rw [h1]
  exact K.lit _ (hok _ (List.mem_of_getElem? hx))
 rcases K.keyed.find w hlk es.toList hkeys with ⟨h1, h2⟩ | ⟨j, e, h1, h2, h3⟩
 ·refine .inl ⟨h1, h2, mget_none ?_⟩
  intro x hx e
  obtain ⟨j, hj⟩ := List.getElem?_of_mem hx
  have := congrArg (fun z => z[j]?) hl
  simp only [List.getElem?_map, hj, Option.map_some] at this
  cases he : es.toList[j]? with
  | none => rw [he] at this; cases this
  | some y =>
   rw [he] at this
   simp only [Option.map_some, Option.some.injEq, Prod.mk.injEq] at this
   exact h2 y (List.mem_of_getElem? he) (by rw [this.1, e])
 ·obtain ⟨x, hx, h4, h5⟩ := entry_at hl h2
  have hxk : x.1 = k := K.inj _ _ (h4.symm.trans h3)
  refine .inr ⟨j, e, x, h1, h2, h3, hx, hxk, h5, mget_some_of hd ?_⟩
  rw [← hxk]
  exact List.mem_of_getElem? hx
theorem MapAt.lookup (K : KE P kt ek okk) (ht : P.underlying t = some (.map kt et)) {z : Value} (hz : ∀ u : World, (zeroValue et).run P u = .ok z u) (h : MapAt w b ek ev l) (hok : ∀ x ∈ l, okk x.1) {k : κ} (hk : okk k) (c : Bool) :
    (Instr.lookup t (.map (some b)) (ek k) c).run P w = .ok (if c then .tuple #[((mget l k).map ev).getD z, .bool (mget l k).isSome] else ((mget l k).map ev).getD z) w := by
 obtain ⟨es, clock, hb, hl, hs⟩ := h.blk
 obtain ⟨lk, hlk⟩ := K.lit k hk
 have hg := MapKept.run_getObj_map (P := P) hb
 have hc := K.keyed.check w es.isEmpty hlk
 rcases MapAt.found K hok hl h.nodup w hk with ⟨h1, _, h3⟩ | ⟨j, e, x, h1, _, _, _, _, h5, h6⟩
 ·cases c <;> simp [Instr.lookup, run_underlying ht, hg, hc, h1, hz, h3, Result.andThen]
 ·cases c <;> simp [Instr.lookup, run_underlying ht, hg, hc, h1, h5, h6, Result.andThen]
theorem mput_keys (l : List (κ × ν)) (k : κ) (v : ν) : (mput l k v).map (·.1) = if (mget l k).isSome then l.map (·.1) else l.map (·.1) ++ [k] := by
 unfold mput
 split
 ·rw [List.map_map]
  refine List.map_congr_left fun x _ => ?_
  simp only [Function.comp_apply]
  split
  ·rename_i h; exact h.symm
  ·rfl
 ·simp
theorem mput_nodup {l : List (κ × ν)} (hd : (l.map (·.1)).Nodup) (k : κ) (v : ν) : ((mput l k v).map (·.1)).Nodup := by
 rw [mput_keys]
 split
 ·exact hd
 ·rename_i h
  have hn : mget l k = none := by simpa using h
  refine List.nodup_append.2 ⟨hd, by simp, ?_⟩
  intro a ha c hc
  simp only [List.mem_singleton] at hc
  subst hc
  obtain ⟨x, hx, rfl⟩ := List.mem_map.1 ha
  exact mget_eq_none hn x hx
theorem MapAt.update (K : KE P kt ek okk) (ht : P.underlying t = some (.map kt et)) (h : MapAt w b ek ev l) (hok : ∀ x ∈ l, okk x.1) {k : κ} (hk : okk k) (v : ν) :
    ∃ w', (Instr.mapUpdate t (.map (some b)) (ek k) (ev v)).run P w = .ok () w' ∧ MapAt w' b ek ev (mput l k v) ∧ w.grownBy w' (some b) ∧ w'.heap.size = w.heap.size := by
 obtain ⟨es, clock, hb, hl, hs⟩ := h.blk
 obtain ⟨lk, hlk⟩ := K.lit k hk
 have hg := MapKept.run_getObj_map (P := P) hb
 have hc := K.keyed.check w false hlk
 have hlt := h.lt
 rcases MapAt.found K hok hl h.nodup w hk with ⟨h1, h2, h3⟩ | ⟨j, e, x, h1, h2, h4, hx, hxk, h5, h6⟩
 ·refine ⟨{ w with heap := w.heap.setIfInBounds b (.map (es.push { key := ek k, val := ev v, born := clock }) (clock + 1)) }, ?_, ⟨⟨es.push { key := ek k, val := ev v, born := clock }, clock + 1, by simp [hlt], ?_, MapKept.stamped_push hs (fun x hx => h2 x hx)⟩, mput_nodup h.nodup k v⟩, grownBy_setObj _ _ _, by simp⟩
  ·simp [Instr.mapUpdate, run_underlying ht, hg, hc, h1, MapKept.run_setObj_map _ hb, Result.andThen]
  ·simp [mput, h3, hl]
 ·have hst := K.keyed.stays w hlk
  have hes : es[j]? = some e := by simpa using h2
  refine ⟨{ w with heap := w.heap.setIfInBounds b (.map (es.modify j fun e => { e with key := ek k, val := ev v }) clock) }, ?_, ⟨⟨es.modify j fun e => { e with key := ek k, val := ev v }, clock, by simp [hlt], ?_, MapKept.stamped_modify hs j _ (fun _ _ => rfl) (fun e' _ he' => ?_)⟩, mput_nodup h.nodup k v⟩, grownBy_setObj _ _ _, by simp⟩
  ·simp [Instr.mapUpdate, run_underlying ht, hg, hc, h1, hes, h4, hst, MapKept.run_setObj_map _ hb, Result.andThen]
  ·have hu : mput l k v = l.modify j (fun _ => (k, v)) := by
    unfold mput
    rw [if_pos (by simp [h6])]
    apply List.ext_getElem?
    intro i
    rw [List.getElem?_modify, List.getElem?_map]
    by_cases hij : j = i
    ·subst hij; simp [hx, hxk]
    ·cases hi : l[i]? with
     | none => rfl
     | some y =>
      have hne : y.1 ≠ k := by
       intro e1
       have hnd := h.nodup
       unfold List.Nodup at hnd
       rw [List.pairwise_iff_getElem] at hnd
       obtain ⟨hil, hiy⟩ := List.getElem?_eq_some_iff.1 hi
       obtain ⟨hjl, hjx⟩ := List.getElem?_eq_some_iff.1 hx
       rcases Nat.lt_or_gt_of_ne hij with hlt' | hlt'
       ·exact hnd j i (by simpa using hjl) (by simpa using hil) hlt' (by simp [hiy, hjx, e1, hxk])
       ·exact hnd i j (by simpa using hil) (by simpa using hjl) hlt' (by simp [hiy, hjx, e1, hxk])
      simp [hne, hij]
   rw [hu]
   simp only [Array.toList_modify]
   apply List.ext_getElem?
   intro i
   have hli := congrArg (fun z => z[i]?) hl
   simp only [List.getElem?_map] at hli
   simp only [List.getElem?_map, List.getElem?_modify]
   by_cases hij : j = i
   ·subst hij
    simp [hes, hx]
   ·cases hi : es.toList[i]? <;> cases hi' : l[i]? <;> rw [hi, hi'] at hli <;> simp_all
  ·rw [hes] at he'
   cases he'
   exact h4.symm
theorem MapKept_eraseIdx_map {α β : Type} (f : α → β) (l : List α) (i : Nat) : (l.eraseIdx i).map f = (l.map f).eraseIdx i := by
 induction l generalizing i with
 | nil => rfl
 | cons a r ih => cases i with
  | zero => rfl
  | succ i => simp [ih]
theorem filter_ne_of_nodup {l : List (κ × ν)} (hd : (l.map (·.1)).Nodup) {j : Nat} {x : κ × ν} (hx : l[j]? = some x) : mdel l x.1 = l.eraseIdx j := by
 induction l generalizing j with
 | nil => simp at hx
 | cons y r ih =>
  simp only [List.map_cons, List.nodup_cons] at hd
  cases j with
  | zero =>
   simp at hx
   subst hx
   have : ∀ z ∈ r, z.1 ≠ y.1 := fun z hz e => hd.1 (by rw [← e]; exact List.mem_map.2 ⟨_, hz, rfl⟩)
   unfold mdel
   rw [List.filter_cons_of_neg (by simp)]
   rw [List.filter_eq_self.2 (by intro z hz; simpa using this z hz)]
   rfl
  | succ j =>
   simp at hx
   have hne : y.1 ≠ x.1 := fun e => hd.1 (by rw [e]; exact List.mem_map.2 ⟨_, List.mem_of_getElem? hx, rfl⟩)
   have := ih hd.2 hx
   unfold mdel at this ⊢
   rw [List.filter_cons_of_pos (by simpa using hne), this]
   rfl
theorem mdel_nodup {l : List (κ × ν)} (hd : (l.map (·.1)).Nodup) (k : κ) : ((mdel l k).map (·.1)).Nodup :=
 List.Nodup.sublist (List.Sublist.map _ List.filter_sublist) hd
theorem MapAt.delete (K : KE P kt ek okk) (ht : P.underlying t = some (.map kt et)) (h : MapAt w b ek ev l) (hok : ∀ x ∈ l, okk x.1) {k : κ} (hk : okk k) (t2 : TypeId) :
    ∃ w', (Builtin.delete_ #[t, t2] ty #[.map (some b), ek k]).run P w = .ok (.tuple #[]) w' ∧ MapAt w' b ek ev (mdel l k) ∧ w.grownBy w' (some b) ∧ w'.heap.size = w.heap.size := by
 obtain ⟨es, clock, hb, hl, hs⟩ := h.blk
 obtain ⟨lk, hlk⟩ := K.lit k hk
 have hg := MapKept.run_getObj_map (P := P) hb
 have hc := K.keyed.check w es.isEmpty hlk
 have hlt := h.lt
 rcases MapAt.found K hok hl h.nodup w hk with ⟨h1, h2, h3⟩ | ⟨j, e, x, h1, h2, h4, hx, hxk, h5, h6⟩
 ·have hm : mdel l k = l := List.filter_eq_self.2 (by intro z hz; simpa using mget_eq_none h3 z hz)
  refine ⟨{ w with heap := w.heap.setIfInBounds b (.map es clock) }, ?_, ⟨⟨es, clock, by simp [hlt], by rw [hm]; exact hl, hs⟩, mdel_nodup h.nodup k⟩, grownBy_setObj _ _ _, by simp⟩
  simp [Builtin.delete_, run_underlying ht, hg, hc, h1, MapKept.run_setObj_map _ hb, Result.andThen]
 ·have hes : es[j]? = some e := by simpa using h2
  refine ⟨{ w with heap := w.heap.setIfInBounds b (.map (es.eraseIdxIfInBounds j) clock) }, ?_, ⟨⟨_, _, by simp [hlt], ?_, MapKept.stamped_erase hs j⟩, mdel_nodup h.nodup k⟩, grownBy_setObj _ _ _, by simp⟩
  ·simp [Builtin.delete_, run_underlying ht, hg, hc, h1, MapKept.run_setObj_map _ hb, Result.andThen]
  ·subst hxk
   rw [filter_ne_of_nodup h.nodup hx]
   have hj : j < es.size := (Array.getElem?_eq_some_iff.1 hes).1
   have : (es.eraseIdxIfInBounds j).toList = es.toList.eraseIdx j := by
    simp [Array.eraseIdxIfInBounds, hj]
   rw [this, MapKept_eraseIdx_map, MapKept_eraseIdx_map, hl]
end
end Go.Proofs.YtcallkljcjimiaaGreatDoor
namespace Go.Proofs.YtcallkljcjimiaaGreatDoor
open Go.RowKit Go.Maps
set_option maxRecDepth 100000
abbrev OpK := Int × List UInt8
abbrev OpV := Int × Int
def opk (k : OpK) : Value := .agg #[.int .i64 k.1, .string ⟨k.2.toArray⟩]
def opv (v : OpV) : Value := .agg #[.int .i64 v.1, .int .i64 v.2]
def okOpK (k : OpK) : Prop := (-9223372036854775808 ≤ k.1 ∧ k.1 ≤ 9223372036854775807) ∧ k.2.length ≤ maxLen
theorem opk_inj (a b : OpK) (h : opk a = opk b) : a = b := by
 obtain ⟨a1, a2⟩ := a
 obtain ⟨b1, b2⟩ := b
 simp [opk] at h
 rw [h.1, h.2]
theorem tabLaid : laidOutB Tryz.prog = true := by kernel_rfl
theorem keyRow : (91 : TypeId) < Tryz.prog.types.size := of_decide_eq_true (by kernel_rfl)
theorem keyWide : (match Tryz.prog.underlying 91 with | some (.array _ _) | some (.struct _) => true | _ => false) = true := by kernel_rfl
theorem keyLaw : WideMaps.KeyLaw Tryz.prog 91 := deep_law_laid tabLaid (m := 2) (by omega) keyRow (by kernel_rfl) keyWide
theorem keyIs : Tryz.prog.keyType 91 = true := by kernel_rfl
theorem keyFields : ∃ f g, Tryz.prog.underlying 91 = some (.struct #[f, g]) ∧ f.type = 3 ∧ g.type = 9 ∧ f.offset = 0 ∧ g.offset = 1 ∧ (f.name != "_") = true ∧ (g.name != "_") = true := ⟨_, _, Tryz.underlying91, rfl, rfl, rfl, rfl, by decide, by decide⟩
theorem keyCells : Tryz.prog.cellsOf 91 = 2 := by kernel_rfl
theorem intCells : Tryz.prog.cellsOf 3 = 1 := by kernel_rfl
theorem stringCells : Tryz.prog.cellsOf 9 = 1 := by kernel_rfl
theorem typesPos : ∃ m, Tryz.prog.types.size = m + 1 := ⟨Tryz.prog.types.size - 1, (Nat.succ_pred_eq_of_pos (Nat.lt_of_le_of_lt (Nat.zero_le _) keyRow)).symm⟩
theorem int_wf {a : Int} (h1 : -9223372036854775808 ≤ a) (h2 : a ≤ 9223372036854775807) : (Lit.int .i64 a).wf = true := by
 have e1 : IntKind.i64.min = -9223372036854775808 := by decide
 have e2 : IntKind.i64.max = 9223372036854775807 := by decide
 simp only [Lit.wf, Bool.and_eq_true, e1, e2]
 exact ⟨decide_eq_true h1, decide_eq_true h2⟩
theorem keyReads (k : OpK) (h : okOpK k) : ∃ l, keyOf Tryz.prog 91 (opk k) = some l := by
 obtain ⟨f, g, hu, f1, g1, f2, g2, f3, g3⟩ := keyFields
 obtain ⟨m, hm⟩ := typesPos
 obtain ⟨⟨h1, h2⟩, h3⟩ := h
 have hw := int_wf h1 h2
 unfold keyOf
 simp only [hu]
 rw [if_pos (by simp [keyIs, opk, Value.formed, hu, keyCells]), hm]
 refine ⟨.string (keyBytes [.int .i64 k.1, .string k.2]), ?_⟩
 unfold Program.keyLits
 simp only [hu, opk, Value.cells]
 rw [if_pos ⟨by rw [keyCells]; rfl, by simp [f3, g3]⟩]
 simp only [List.mapM_cons, List.mapM_nil, f1, g1, f2, g2, intCells, stringCells]
 simp [Program.keyLits, Tryz.underlying3, Tryz.underlying9, hw, ByteArray.size, h3]
theorem opKE : KE Tryz.prog 91 opk okOpK := ⟨Keyed.of_law keyLaw, keyReads, opk_inj⟩
def kSort (t : Int) : Int := if t ≤ 0 then 0 else if t ≤ 3 then 2 else if t ≤ 5 then 1 else 3
def kLeft (t : Int) : Int := if t = 1 ∨ t = 2 ∨ t = 6 then 1 else 0
def kRight (t : Int) : Int := if t = 1 ∨ t = 3 ∨ t = 4 then 1 else 0
theorem kLeft_bd (t : Int) : 0 ≤ kLeft t ∧ kLeft t ≤ 1 := by unfold kLeft; split <;> omega
theorem kRight_bd (t : Int) : 0 ≤ kRight t ∧ kRight t ≤ 1 := by unfold kRight; split <;> omega
theorem kSort_bd (t : Int) : 0 ≤ kSort t ∧ kSort t ≤ 3 := by unfold kSort; repeat' split <;> omega
def KindsAt (w : World) : Prop := ∀ t : Nat, t ≤ 7 → w.cell? ⟨0, t * 3, none⟩ = some (.int .i64 (kSort t)) ∧ w.cell? ⟨0, t * 3 + 1, none⟩ = some (.int .i64 (kLeft t)) ∧ w.cell? ⟨0, t * 3 + 2, none⟩ = some (.int .i64 (kRight t))
theorem KindsAt.lt {w : World} (h : KindsAt w) : 0 < w.heap.size := World.block_lt_of_cell? w _ (h 0 (by omega)).1
theorem KindsAt.keep {w w' : World} (h : KindsAt w) (hb : w'.heap[0]? = w.heap[0]?) : KindsAt w' := fun t ht => by
 obtain ⟨a, b, c⟩ := h t ht
 exact ⟨(World.cell?_of_block (a := ⟨0, t * 3, none⟩) hb).trans a, (World.cell?_of_block (a := ⟨0, t * 3 + 1, none⟩) hb).trans b, (World.cell?_of_block (a := ⟨0, t * 3 + 2, none⟩) hb).trans c⟩
theorem KindsAt.below {w w' : World} {B : Nat} (h : KindsAt w) (hb : Below B w w') (hB : 0 < B) : KindsAt w' := h.keep (hb.block _ hB)
def goodOp (x : OpK × OpV) : Prop := x.1.1 = kSort x.2.2 ∧ x.1.2.length ≤ 1000 ∧ 1 ≤ x.2.1 ∧ x.2.1 ≤ 1200 ∧ 1 ≤ x.2.2 ∧ x.2.2 ≤ 7
theorem goodOp.ok {x : OpK × OpV} (h : goodOp x) : okOpK x.1 := by
 obtain ⟨h1, h2, _⟩ := h
 have := kSort_bd x.2.2
 unfold okOpK maxLen
 omega
structure TabAt (w : World) (bt bm : Nat) (es : List (OpK × OpV)) : Prop where
 cell : w.cell? ⟨bt, 0, none⟩ = some (.map (some bm))
 map : MapAt w bm opk opv es
 good : ∀ x ∈ es, goodOp x
theorem TabAt.ok {w : World} {bt bm : Nat} {es : List (OpK × OpV)} (h : TabAt w bt bm es) : ∀ x ∈ es, okOpK x.1 := fun x hx => (h.good x hx).ok
theorem TabAt.lt {w : World} {bt bm : Nat} {es : List (OpK × OpV)} (h : TabAt w bt bm es) : bt < w.heap.size := World.block_lt_of_cell? w _ h.cell
theorem TabAt.keep {w w' : World} {bt bm : Nat} {es : List (OpK × OpV)} (h : TabAt w bt bm es) (h1 : w'.heap[bt]? = w.heap[bt]?) (h2 : w'.heap[bm]? = w.heap[bm]?) : TabAt w' bt bm es :=
 ⟨(World.cell?_of_block (a := ⟨bt, 0, none⟩) h1).trans h.cell, h.map.keep h2, h.good⟩
theorem TabAt.below {w w' : World} {bt bm B : Nat} {es : List (OpK × OpV)} (h : TabAt w bt bm es) (hb : Below B w w') (h1 : bt < B) (h2 : bm < B) : TabAt w' bt bm es := h.keep (hb.block _ h1) (hb.block _ h2)
theorem TabAt.later {w w' : World} {bt bm : Nat} {es : List (OpK × OpV)} (h : TabAt w bt bm es) (hb : Below w.heap.size w w') : TabAt w' bt bm es := h.below hb h.lt h.map.lt
theorem KindsAt.later {w w' : World} (h : KindsAt w) (hb : Below w.heap.size w w') : KindsAt w' := h.below hb h.lt
def opGet (es : List (OpK × OpV)) (k : OpK) : OpV := (mget es k).getD (0, 0)
theorem tab_lookup {u : World} {bm : Nat} {es : List (OpK × OpV)} (h : MapAt u bm opk opv es) (hok : ∀ x ∈ es, okOpK x.1) (s : Int) (n : List UInt8) (hk : okOpK (s, n)) :
    (Instr.lookup 77 (.map (some bm)) (.agg #[.int .i64 s, .string ⟨n.toArray⟩]) true).run Tryz.prog u =
      .ok (.tuple #[.agg #[.int .i64 (opGet es (s, n)).1, .int .i64 (opGet es (s, n)).2], .bool (mget es (s, n)).isSome]) u := by
 have := h.lookup (t := 77) opKE Tryz.underlying77 (z := .agg #[.int .i64 0, .int .i64 0]) (fun u => by kernel_rfl) hok hk true
 rw [show opk (s, n) = .agg #[.int .i64 s, .string ⟨n.toArray⟩] from rfl] at this
 rw [this]
 cases hg : mget es (s, n) <;> simp [opGet, hg, opv]
set_option maxHeartbeats 400000 in
theorem has_any (w : World) (bt bm : Nat) (es : List (OpK × OpV)) (hT : TabAt w bt bm es) (s : Int) (n : List UInt8) (hk : okOpK (s, n)) :
    Calls Tryz.prog 68 #[.pointer (some ⟨bt, 0, none⟩), .int .i64 s, .string ⟨n.toArray⟩] w fun e w' => e = .returned (.bool (mget es (s, n)).isSome) ∧ Below w.heap.size w w' := by
 have hl := tab_lookup hT.map hT.ok s n hk
 have hc := hT.cell
 clear hT hk
 go_enter Tryz.func68, Tryz.ntmps68
 go_wp2
 go_ret
 exact ⟨rfl, (Below.refl _ _).alloc (Nat.le_refl _) _⟩
def tsides (es : List (OpK × OpV)) (s : Int) (n : List UInt8) : Int × Int × Int :=
 match mget es (s, n) with
 | some (p, t) => (p, p - kLeft t, p - kRight t)
 | none => (0, 0, 0)
set_option maxHeartbeats 400000 in
theorem sides_some (w : World) (bt bm : Nat) (es : List (OpK × OpV)) (hT : TabAt w bt bm es) (hK : KindsAt w) (s : Int) (n : List UInt8) (hk : okOpK (s, n))
    (p : Int) (t : Nat) (hg : mget es (s, n) = some (p, (t : Int))) (hp : 0 ≤ p ∧ p ≤ 1200) (ht : 1 ≤ t ∧ t ≤ 7) :
    Calls Tryz.prog 125 #[.pointer (some ⟨bt, 0, none⟩), .int .i64 s, .string ⟨n.toArray⟩] w fun e w' => e = .returned (.tuple #[.int .i64 p, .int .i64 (p - kLeft t), .int .i64 (p - kRight t)]) ∧ Below w.heap.size w w' := by
 have hl := tab_lookup hT.map hT.ok s n hk
 simp only [opGet, hg, Option.getD_some, Option.isSome_some] at hl
 obtain ⟨k0, k1, k2⟩ := hK t ht.2
 obtain ⟨ht1, ht2⟩ := ht
 obtain ⟨hp1, hp2⟩ := hp
 obtain ⟨l1, l2⟩ := kLeft_bd t
 obtain ⟨r1, r2⟩ := kRight_bd t
 have h8 : (t : Int) < 8 := by omega
 have h0 : 0 < w.heap.size := hK.lt
 have hc := hT.cell
 clear hT hk hK hg
 go_enter Tryz.func125, Tryz.ntmps125
 go_wp2
 go_quiet (fail)
 go_wp2
 go_ret3
 exact ⟨rfl, below_drewN ((Below.refl _ _).alloc (Nat.le_refl _) _) _⟩
set_option maxHeartbeats 400000 in
theorem sides_none (w : World) (bt bm : Nat) (es : List (OpK × OpV)) (hT : TabAt w bt bm es) (s : Int) (n : List UInt8) (hk : okOpK (s, n)) (hg : mget es (s, n) = none) :
    Calls Tryz.prog 125 #[.pointer (some ⟨bt, 0, none⟩), .int .i64 s, .string ⟨n.toArray⟩] w fun e w' => e = .returned (.tuple #[.int .i64 0, .int .i64 0, .int .i64 0]) ∧ Below w.heap.size w w' := by
 have hl := tab_lookup hT.map hT.ok s n hk
 simp only [opGet, hg, Option.getD_none, Option.isSome_none] at hl
 have hc := hT.cell
 clear hT hk hg
 go_enter Tryz.func125, Tryz.ntmps125
 go_wp2
 go_ret3
 exact ⟨rfl, (Below.refl _ _).alloc (Nat.le_refl _) _⟩
theorem sides_any (w : World) (bt bm : Nat) (es : List (OpK × OpV)) (hT : TabAt w bt bm es) (hK : KindsAt w) (s : Int) (n : List UInt8) (hk : okOpK (s, n)) :
    Calls Tryz.prog 125 #[.pointer (some ⟨bt, 0, none⟩), .int .i64 s, .string ⟨n.toArray⟩] w fun e w' =>
     e = .returned (.tuple #[.int .i64 (tsides es s n).1, .int .i64 (tsides es s n).2.1, .int .i64 (tsides es s n).2.2]) ∧ Below w.heap.size w w' := by
 unfold tsides
 cases hg : mget es (s, n) with
 | none => exact sides_none w bt bm es hT s n hk hg
 | some v =>
  obtain ⟨p, t⟩ := v
  obtain ⟨_, _, g3, g4, g5, g6⟩ := hT.good _ (mget_mem hg)
  simp only at g3 g4 g5 g6
  obtain ⟨t, rfl⟩ := Int.eq_ofNat_of_zero_le (show 0 ≤ t by omega)
  exact sides_some w bt bm es hT hK s n hk p t hg (by omega) (by omega)
def OkName (n : List UInt8) : Prop := n.length ≤ maxLen
theorem OkName.k {n : List UInt8} (h : OkName n) (s : Int) (h1 : 0 ≤ s ∧ s ≤ 3) : okOpK (s, n) := ⟨by simp only; omega, h⟩
set_option maxHeartbeats 400000 in
theorem infix_any (w : World) (bt bm : Nat) (es : List (OpK × OpV)) (hT : TabAt w bt bm es) (hK : KindsAt w) (n : List UInt8) (hn : OkName n) :
    Calls Tryz.prog 126 #[.pointer (some ⟨bt, 0, none⟩), .string ⟨n.toArray⟩] w fun e w' =>
     e = .returned (.tuple #[.int .i64 (tsides es 2 n).1, .int .i64 (tsides es 2 n).2.1, .int .i64 (tsides es 2 n).2.2]) ∧ Below w.heap.size w w' := by
 go_enter Tryz.func126, Tryz.ntmps126
 go_wp2_with (go_at_call 125; refine (sides_any _ bt bm es hT hK 2 n (hn.k 2 (by omega))).mono ?_; rintro e w1 ⟨rfl, hb⟩)
 go_ret3
 exact ⟨rfl, hb⟩
set_option maxHeartbeats 400000 in
theorem prefix_any (w : World) (bt bm : Nat) (es : List (OpK × OpV)) (hT : TabAt w bt bm es) (hK : KindsAt w) (n : List UInt8) (hn : OkName n) :
    Calls Tryz.prog 96 #[.pointer (some ⟨bt, 0, none⟩), .string ⟨n.toArray⟩] w fun e w' =>
     e = .returned (.tuple #[.int .i64 (tsides es 1 n).1, .int .i64 (tsides es 1 n).2.2]) ∧ Below w.heap.size w w' := by
 go_enter Tryz.func96, Tryz.ntmps96
 go_wp2_with (go_at_call 125; refine (sides_any _ bt bm es hT hK 1 n (hn.k 1 (by omega))).mono ?_; rintro e w1 ⟨rfl, hb⟩)
 go_ret2
 exact ⟨rfl, hb⟩
set_option maxHeartbeats 400000 in
theorem postfix_any (w : World) (bt bm : Nat) (es : List (OpK × OpV)) (hT : TabAt w bt bm es) (hK : KindsAt w) (n : List UInt8) (hn : OkName n) :
    Calls Tryz.prog 127 #[.pointer (some ⟨bt, 0, none⟩), .string ⟨n.toArray⟩] w fun e w' =>
     e = .returned (.tuple #[.int .i64 (tsides es 3 n).1, .int .i64 (tsides es 3 n).2.1]) ∧ Below w.heap.size w w' := by
 go_enter Tryz.func127, Tryz.ntmps127
 go_wp2_with (go_at_call 125; refine (sides_any _ bt bm es hT hK 3 n (hn.k 3 (by omega))).mono ?_; rintro e w1 ⟨rfl, hb⟩)
 go_ret2
 exact ⟨rfl, hb⟩
end Go.Proofs.YtcallkljcjimiaaGreatDoor
