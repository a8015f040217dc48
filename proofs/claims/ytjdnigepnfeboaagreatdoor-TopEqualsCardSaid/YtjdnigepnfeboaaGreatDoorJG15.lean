import Derived.Test.YtjdnigepnfeboaaGreatDoorJG04
import Derived.Test.YtjdnigepnfeboaaGreatDoorJG11
namespace Go.Proofs.YtjdnigepnfeboaaGreatDoor
open Go.RowKit Go.Maps
set_option maxRecDepth 100000
theorem mem_mput {κ ν : Type} [DecidableEq κ] {l : List (κ × ν)} {k : κ} {v : ν} {x : κ × ν} (h : x ∈ mput l k v) : x ∈ l ∨ x = (k, v) := by
 unfold mput at h
 split at h
 ·obtain ⟨y, hy, rfl⟩ := List.mem_map.1 h
  split
  ·exact .inr rfl
  ·exact .inl hy
 ·rcases List.mem_append.1 h with h | h
  ·exact .inl h
  ·exact .inr (by simpa using h)
theorem TabAt.changed {w w' : World} {bt bm : Nat} {es es' : List (OpK × OpV)} (hT : TabAt w bt bm es) (hF : Fr (· = bm) w w') (hbb : bt ≠ bm) (hM : MapAt w' bm opk opv es') (hg : ∀ x ∈ es', goodOp x) : TabAt w' bt bm es' :=
 ⟨(hF.cell (p := ⟨bt, 0, none⟩) hT.lt hbb).trans hT.cell, hM, hg⟩
section
variable {κ ν : Type} [DecidableEq κ]
theorem mget_nil (k : κ) : mget ([] : List (κ × ν)) k = none := rfl
theorem mget_cons (y : κ × ν) (r : List (κ × ν)) (k : κ) : mget (y :: r) k = if y.1 = k then some y.2 else mget r k := by
 unfold mget
 rw [List.find?_cons]
 by_cases e : y.1 = k <;> simp [e]
theorem mget_append (l r : List (κ × ν)) (k : κ) : mget (l ++ r) k = (mget l k).or (mget r k) := by
 unfold mget
 rw [List.find?_append]
 cases l.find? (fun x => decide (x.1 = k)) <;> simp
theorem mget_map_put (l : List (κ × ν)) (k k' : κ) (v : ν) : mget (l.map (fun x => if x.1 = k then (k, v) else x)) k' = if k' = k then (mget l k).map (fun _ => v) else mget l k' := by
 induction l with
 | nil => by_cases e : k' = k <;> simp [mget_nil, e]
 | cons y r ih =>
  rw [List.map_cons, mget_cons, ih, mget_cons, mget_cons]
  by_cases e : y.1 = k
  ·by_cases e2 : k' = k
   ·subst e2; simp [e]
   ·have e3 : ¬ k = k' := fun h => e2 h.symm
    simp [e, e2, e3]
  ·by_cases e2 : k' = k
   ·subst e2; simp [e]
   ·simp [e, e2]
theorem mget_mput_same (l : List (κ × ν)) (k : κ) (v : ν) : mget (mput l k v) k = some v := by
 unfold mput
 split
 ·rename_i h
  rw [mget_map_put, if_pos rfl]
  obtain ⟨x, hx⟩ := Option.isSome_iff_exists.1 h
  rw [hx]
  rfl
 ·rename_i h
  have hn : mget l k = none := by simpa using h
  rw [mget_append, hn, mget_cons]
  simp
theorem mget_mput_other (l : List (κ × ν)) (k k' : κ) (v : ν) (h : k' ≠ k) : mget (mput l k v) k' = mget l k' := by
 unfold mput
 split
 ·rw [mget_map_put, if_neg h]
 ·have : ¬ k = k' := fun e => h e.symm
  rw [mget_append, mget_cons, mget_nil, if_neg this]
  simp
end
end Go.Proofs.YtjdnigepnfeboaaGreatDoor
namespace Go.Proofs.YtjdnigepnfeboaaGreatDoor
open Go.RowKit Go.Maps
def litOk (ops : Array Oper) (js : List Nat) (fst : Nat) (rest : List Nat) : Bool :=
 js.all (fun j => (ops[j]?).any fun o => o.after.all fun e => !Region.binds .any e || (decide (e.on < ops.size) && !(js.contains e.on || (fst :: rest).contains e.on))) &&
 ((ops[fst]?).all (fun o => js.all (fun j => o.after.any fun e => Region.binds .any e && (e.on == j))) &&
 (rest.all (fun r => (ops[r]?).all fun o => o.after.any fun e => Region.binds .any e && (e.on == fst)) && decide (fst < ops.size)))
def litAt (n : Nat) (listed : Array Bool) (js ends : List Nat) : Bool :=
 (listed.size == n) && (List.range n).all fun i => listed.getD i true == !(js.contains i || ends.contains i)
structure LitS (n : Nat) (listed : Array Bool) (left ends : List Nat) : Prop where
 size : listed.size = n
 pos : ∀ i, i < n → (listed.getD i true = false ↔ i ∈ left ∨ i ∈ ends)
theorem LitS.of {n : Nat} {listed : Array Bool} {js ends : List Nat} (h : litAt n listed js ends = true) : LitS n listed js ends := by
 simp only [litAt, Bool.and_eq_true, beq_iff_eq, List.all_eq_true, List.mem_range] at h
 refine ⟨h.1, fun i hi => ?_⟩
 rw [h.2 i hi]
 by_cases h1 : i ∈ js <;> simp [h1]
theorem getD_of {listed : Array Bool} {i : Nat} (hi : i < listed.size) (d e : Bool) : listed.getD i d = listed.getD i e := by simp [Array.getD, hi]
theorem LitS.same {n : Nat} {l l' : Array Bool} {left ends : List Nat} (h : LitS n l left ends) (h' : LitS n l' left ends) : l = l' := by
 refine Array.ext (by rw [h.size, h'.size]) fun i h1 h2 => ?_
 have e1 : l.getD i true = l[i] := by simp [Array.getD, h1]
 have e2 : l'.getD i true = l'[i] := by simp [Array.getD, h2]
 have a := h.pos i (by rw [← h.size]; exact h1)
 have b := h'.pos i (by rw [← h.size]; exact h1)
 rw [e1] at a
 rw [e2] at b
 rw [Bool.eq_iff_iff, ← Bool.not_eq_false, ← Bool.not_eq_false, a, b]
theorem LitS.done {n : Nat} {listed : Array Bool} {left ends : List Nat} {i : Nat} (h : LitS n listed left ends) (hi : i < n) (h1 : i ∉ left) (h2 : i ∉ ends) : listed.getD i false = true := by
 rw [getD_of (by rw [h.size]; exact hi) false true]
 cases hc : listed.getD i true with
 | true => rfl
 | false => exact absurd ((h.pos i hi).1 hc) (by simp [h1, h2])
theorem LitS.undone {n : Nat} {listed : Array Bool} {left ends : List Nat} {i : Nat} (h : LitS n listed left ends) (hi : i < n) (h1 : i ∈ left ∨ i ∈ ends) : ¬ listed.getD i false = true := by
 rw [getD_of (by rw [h.size]; exact hi) false true, (h.pos i hi).2 h1]
 exact Bool.false_ne_true
theorem LitS.step {n : Nat} {listed : Array Bool} {left ends : List Nat} {i : Nat} (h : LitS n listed left ends) (hn : left.Nodup) (hl : i ∉ ends) : LitS n (listed.setIfInBounds i true) (left.erase i) ends := by
 refine ⟨by simp [h.size], fun k hk => ?_⟩
 by_cases hki : k = i
 ·subst hki
  have : k ∉ left.erase k := hn.not_mem_erase
  simp [Array.getD, h.size, hk, this, hl]
 ·rw [Go.getD_set_ne true (fun e => hki e.symm), h.pos k hk, List.mem_erase_of_ne hki]
theorem wpAny_left {P : Program} {ops : Array Oper} {Q : Exit → Act → World → Prop} {js : List Nat} {fst : Nat} {rest : List Nat} {full : Array Bool} (hok : litOk ops js fst rest = true) (hfull : litAt ops.size full [] (fst :: rest) = true)
    (k : Nat) (a : Act) (G : List Nat → World → Prop)
    (hs : ∀ left i w, left.Nodup → i ∈ left → i ∈ js → G left w → wpOp P ops Q i (fun a' w' => a' = a ∧ G (left.erase i) w') a w)
    (hl : ∀ w, G [] w → wpAny P .any ops Q k full a w) :
    ∀ (m : Nat) (left : List Nat) (listed : Array Bool) (w : World), left.length = m → (∀ j ∈ left, j ∈ js) → left.Nodup → LitS ops.size listed left (fst :: rest) → G left w → wpAny P .any ops Q (m + k) listed a w := by
 simp only [litOk, Bool.and_eq_true, List.all_eq_true, Option.any_eq_true, Option.all_eq_true, Array.all_eq_true_iff_forall_mem, Array.any_eq_true', Bool.or_eq_true, Bool.not_eq_true', beq_iff_eq, decide_eq_true_eq] at hok
 obtain ⟨h1, h2, h3, h4⟩ := hok
 intro m
 induction m with
 | zero =>
  intro left listed w hm hj hn hL hG
  have h0 : left = [] := List.eq_nil_of_length_eq_zero hm
  subst h0
  rw [hL.same (LitS.of hfull), Nat.zero_add]
  exact hl w hG
 | succ m ih =>
  intro left listed w hm hj hn hL hG
  rw [Nat.add_right_comm]
  cases left with
  | nil => cases hm
  | cons j0 r0 =>
  have hj0 := hj j0 (List.mem_cons_self ..)
  have hne : ∀ j ∈ j0 :: r0, j ∈ Region.ready .any ops listed ∧ j < ops.size ∧ j ∉ fst :: rest := fun j hjl => by
   obtain ⟨o, ho, ha⟩ := h1 j (hj j hjl)
   have hlt := (Array.getElem?_eq_some_iff.1 ho).1
   have hd : ∀ e ∈ o.after, Region.binds .any e = true → listed.getD e.on false = true := fun e he hb => by
    have := (ha e he).resolve_left (by simp [hb])
    have h5 := this.2
    simp only [Bool.or_eq_false_iff] at h5
    exact hL.done this.1 (fun h => by have := h5.1; rw [List.contains_iff_mem.2 (hj _ h)] at this; cases this) (fun h => by have := h5.2; rw [List.contains_iff_mem.2 h] at this; cases this)
   refine ⟨mem_ready.2 ⟨(hL.pos j hlt).2 (.inl hjl), o, ho, hd⟩, hlt, fun hje => ?_⟩
   rcases List.mem_cons.1 hje with rfl | hr
   ·obtain ⟨e, he, hb, hej⟩ := h2 o ho j (hj j hjl)
    exact hL.undone hlt (.inl hjl) (hej ▸ hd e he hb)
   ·obtain ⟨e, he, hb, hej⟩ := h3 j hr o ho
    exact hL.undone h4 (.inr (List.mem_cons_self ..)) (hej ▸ hd e he hb)
  have hj1 := hne j0 (List.mem_cons_self ..)
  refine ⟨fun h0 => absurd hj1.1 (by rw [h0]; simp), fun i hi => ?_⟩
  have h5 := mem_ready.1 hi
  obtain ⟨o, ho, ha⟩ := h5.2
  rcases (hL.pos i (Array.getElem?_eq_some_iff.1 ho).1).1 h5.1 with h | h
  ·refine wpOp_mono (fun a' w' h' => ?_) (hs (j0 :: r0) i w hn h (hj i h) hG)
   obtain ⟨rfl, hG'⟩ := h'
   exact ih ((j0 :: r0).erase i) _ w' (by rw [List.length_erase_of_mem h, hm]; rfl) (fun j hj' => hj j (List.mem_of_mem_erase hj')) (hn.erase i) (hL.step hn (hne i h).2.2) hG'
  ·rcases List.mem_cons.1 h with rfl | hr
   ·obtain ⟨e, he, hb, hej⟩ := h2 o ho j0 hj0
    exact absurd (hej ▸ ha e he hb) (hL.undone hj1.2.1 (.inl (List.mem_cons_self ..)))
   ·obtain ⟨e, he, hb, hej⟩ := h3 i hr o ho
    exact absurd (hej ▸ ha e he hb) (hL.undone h4 (.inr (List.mem_cons_self ..)))
structure LitG {κ ν : Type} [DecidableEq κ] (w : World) (b : Nat) (ek : κ → Value) (ev : ν → Value) (okk : κ → Prop) (js : List Nat) (it : Nat → κ × ν) (left : List Nat) (u : World) : Prop where
 map : ∃ L, NMap w u b ek ev okk L ∧ (∀ j ∈ js, mget L (it j).1 = if j ∈ left then none else some (it j).2) ∧ ∀ k, (∀ j ∈ js, (it j).1 ≠ k) → mget L k = none
theorem LitG.start {κ ν : Type} [DecidableEq κ] {w u : World} {b : Nat} {ek : κ → Value} {ev : ν → Value} {okk : κ → Prop} {js : List Nat} {it : Nat → κ × ν} (h : NMap w u b ek ev okk []) : LitG w b ek ev okk js it js u :=
 ⟨[], h, fun j hj => by rw [if_pos hj]; rfl, fun _ _ => rfl⟩
theorem LitG.put {P : Program} {κ ν : Type} [DecidableEq κ] {w u : World} {b : Nat} {ek : κ → Value} {ev : ν → Value} {okk : κ → Prop} {js left : List Nat} {it : Nat → κ × ν} {t kt et : TypeId} (K : KE P kt ek okk) (ht : P.underlying t = some (.map kt et))
    (hinj : ∀ i ∈ js, ∀ j ∈ js, (it i).1 = (it j).1 → i = j) (h : LitG w b ek ev okk js it left u) {i : Nat} (hi : i ∈ js) (hk : okk (it i).1) (hn : left.Nodup) :
    ∃ u', (Instr.mapUpdate t (.map (some b)) (ek (it i).1) (ev (it i).2)).run P u = .ok () u' ∧ LitG w b ek ev okk js it (left.erase i) u' := by
 obtain ⟨L, hM, h1, h2⟩ := h.map
 obtain ⟨u', e, hM', -⟩ := hM.put K ht hk (it i).2
 refine ⟨u', e, ⟨_, hM', fun j hj => ?_, fun k hk' => ?_⟩⟩
 ·by_cases hji : j = i
  ·subst hji
   rw [mget_mput_same, if_neg hn.not_mem_erase]
  ·rw [mget_mput_other _ _ _ _ (fun e => hji (hinj j hj i hi e)), h1 j hj]
   simp only [List.mem_erase_of_ne hji]
 ·rw [mget_mput_other _ _ _ _ (fun e => hk' i hi e.symm), h2 k hk']
def LitM {κ ν : Type} [DecidableEq κ] (w u : World) (b : Nat) (ek : κ → Value) (ev : ν → Value) (okk : κ → Prop) (l : List (κ × ν)) : Prop := ∃ L, NMap w u b ek ev okk L ∧ ∀ k, mget L k = mget l k
theorem LitG.all {κ ν : Type} [DecidableEq κ] {w u : World} {b : Nat} {ek : κ → Value} {ev : ν → Value} {okk : κ → Prop} {js : List Nat} {it : Nat → κ × ν} {l : List (κ × ν)} (hl : js.map it = l) (hd : (l.map (·.1)).Nodup) (h : LitG w b ek ev okk js it [] u) : LitM w u b ek ev okk l := by
 obtain ⟨L, hM, h1, h2⟩ := h.map
 refine ⟨L, hM, fun k => ?_⟩
 by_cases hk : ∃ j ∈ js, (it j).1 = k
 ·obtain ⟨j, hj, rfl⟩ := hk
  rw [h1 j hj, if_neg (by simp), mget_some_of hd (by rw [← hl]; exact List.mem_map.2 ⟨j, hj, rfl⟩)]
 ·have hk' : ∀ j ∈ js, (it j).1 ≠ k := fun j hj e => hk ⟨j, hj, e⟩
  rw [h2 k hk', mget_none (fun x hx => ?_)]
  rw [← hl] at hx
  obtain ⟨j, hj, rfl⟩ := List.mem_map.1 hx
  exact hk' j hj
end Go.Proofs.YtjdnigepnfeboaaGreatDoor
