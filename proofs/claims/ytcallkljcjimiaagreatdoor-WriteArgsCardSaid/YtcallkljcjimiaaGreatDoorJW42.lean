import Derived.Test.YtcallkljcjimiaaGreatDoorJW40
import Derived.Laws.CopyRow
namespace Go.Proofs.YtcallkljcjimiaaGreatDoor
section
variable {κ ν : Type} [DecidableEq κ]
theorem mget_nil (k : κ) : mget ([] : List (κ × ν)) k = none := rfl
theorem mget_cons (y : κ × ν) (r : List (κ × ν)) (k : κ) : mget (y :: r) k = if y.1 = k then some y.2 else mget r k := by
 unfold mget
 rw [List.find?_cons]
 by_cases e : y.1 = k <;> simp [e]
theorem mget_append (l r : List (κ × ν)) (k : κ) : mget (l ++ r) k = (mget l k).or (mget r k) := by
 unfold mget
 rw [List.find?_append]
 cases l.find? (fun x => decide (x.1 = k)) <;> simp
theorem mget_map_put (l : List (κ × ν)) (k k' : κ) (v : ν) : mget (l.map (fun x => if x.1 = k then (k, v) else x)) k' = if k' = k then (mget l k).map (fun _ => v) else mget l k' := by
 induction l with
 | nil => by_cases e : k' = k <;> simp [mget_nil, e]
 | cons y r ih =>
  rw [List.map_cons, mget_cons, ih, mget_cons, mget_cons]
  by_cases e : y.1 = k
  ·by_cases e2 : k' = k
   ·subst e2; simp [e]
   ·have e3 : ¬ k = k' := fun h => e2 h.symm
    simp [e, e2, e3]
  ·by_cases e2 : k' = k
   ·subst e2; simp [e]
   ·simp [e, e2]
theorem mget_mput_other (l : List (κ × ν)) (k k' : κ) (v : ν) (h : k' ≠ k) : mget (mput l k v) k' = mget l k' := by
 unfold mput
 split
 ·rw [mget_map_put, if_neg h]
 ·have : ¬ k = k' := fun e => h e.symm
  rw [mget_append, mget_cons, mget_nil, if_neg this]
  simp
theorem mget_mdel_same (l : List (κ × ν)) (k : κ) : mget (mdel l k) k = none :=
 mget_none fun x hx => by simpa using (List.mem_filter.1 hx).2
theorem mget_mdel_other (l : List (κ × ν)) (k k' : κ) (h : k' ≠ k) : mget (mdel l k) k' = mget l k' := by
 unfold mdel mget
 induction l with
 | nil => rfl
 | cons y r ih =>
  by_cases e : y.1 = k
  ·have e1 : ¬ y.1 = k' := fun e2 => h (e2.symm.trans e)
   rw [List.filter_cons_of_neg (by simpa using e), List.find?_cons_of_neg (by simpa using e1)]
   exact ih
  ·rw [List.filter_cons_of_pos (by simpa using e)]
   by_cases e1 : y.1 = k'
   ·simp [e1]
   ·rw [List.find?_cons_of_neg (by simpa using e1), List.find?_cons_of_neg (by simpa using e1)]
    exact ih
end
end Go.Proofs.YtcallkljcjimiaaGreatDoor
namespace Go.Proofs.YtcallkljcjimiaaGreatDoor
open Go.RowKit Go.Maps
set_option maxRecDepth 100000
set_option maxHeartbeats 400000 in
theorem op_arg (w : World) (bt : Nat) (p t : Int) (n : List UInt8) (hn : n.length ≤ 9223372036854775807) (h : p < 0 ∨ 1200 < p ∨ t < 1 ∨ 7 < t ∨ 1000 < n.length) :
    Calls Tryz.prog 35 #[.pointer (some ⟨bt, 0, none⟩), .int .i64 p, .int .i64 t, .string ⟨n.toArray⟩] w fun e w' => e = .returned (.int .i64 2) ∧ w = w' := by
 have H := Lib.hid h
 clear h
 by_cases h1 : p < 0
 ·go_enter Tryz.func35, Tryz.ntmps35
  go_wp2
  go_ret
  exact ⟨rfl, rfl⟩
 by_cases h2 : 1200 < p
 ·have h1' : 0 ≤ p := by omega
  clear h1
  go_enter Tryz.func35, Tryz.ntmps35
  go_wp2
  go_ret
  exact ⟨rfl, rfl⟩
 have h1' : 0 ≤ p := by omega
 have h2' : p ≤ 1200 := by omega
 clear h1 h2
 by_cases h3 : t < 1
 ·go_enter Tryz.func35, Tryz.ntmps35
  go_wp2
  go_ret
  exact ⟨rfl, rfl⟩
 by_cases h4 : 7 < t
 ·have h3' : 1 ≤ t := by omega
  clear h3
  go_enter Tryz.func35, Tryz.ntmps35
  go_wp2
  go_ret
  exact ⟨rfl, rfl⟩
 have h3' : 1 ≤ t := by omega
 have h4' : t ≤ 7 := by omega
 clear h3 h4
 have h5 : 1000 < n.length := by have := H.out; omega
 clear H
 go_enter Tryz.func35, Tryz.ntmps35
 go_wp2
 go_ret
 exact ⟨rfl, rfl⟩
set_option maxHeartbeats 400000 in
theorem op_perm (w : World) (bt : Nat) (p t : Int) (n : List UInt8) (hn : n.length ≤ 1000) (h1 : 0 ≤ p) (h2 : p ≤ 1200) (h3 : 1 ≤ t) (h4 : t ≤ 7) (h : n = [44] ∨ n = [124] ∨ n = [91, 93] ∨ n = [123, 125]) :
    Calls Tryz.prog 35 #[.pointer (some ⟨bt, 0, none⟩), .int .i64 p, .int .i64 t, .string ⟨n.toArray⟩] w fun e w' => e = .returned (.int .i64 15) ∧ w = w' := by
 rcases h with rfl | rfl | rfl | rfl
 all_goals
  go_enter Tryz.func35, Tryz.ntmps35
  go_wp2
  go_ret
  exact ⟨rfl, rfl⟩
theorem op_any (w : World) (bt bm : Nat) (es : List (OpK × OpV)) (hT : TabAt w bt bm es) (hK : KindsAt w) (hbb : bt ≠ bm) (p t : Int) (n : List UInt8) (hn : n.length ≤ 9223372036854775807) :
    Calls Tryz.prog 35 #[.pointer (some ⟨bt, 0, none⟩), .int .i64 p, .int .i64 t, .string ⟨n.toArray⟩] w fun e w' =>
     e = .returned (.int .i64 (opErr es p t n)) ∧ TabAt w' bt bm (opTab es p t n) ∧ Fr (· = bm) w w' := by
 unfold opTab
 by_cases c1 : p < 0 ∨ 1200 < p ∨ t < 1 ∨ 7 < t ∨ 1000 < n.length
 ·have e1 : opErr es p t n = 2 := by unfold opErr; rw [if_pos c1]
  rw [e1]
  refine (op_arg w bt p t n hn c1).mono ?_
  rintro e w' ⟨rfl, rfl⟩
  exact ⟨rfl, by simpa using hT, Fr.refl _ _⟩
 by_cases c2 : n = [44] ∨ n = [124] ∨ n = [91, 93] ∨ n = [123, 125]
 ·have e1 : opErr es p t n = 15 := by unfold opErr; rw [if_neg c1, if_pos c2]
  rw [e1]
  refine (op_perm w bt p t n (by omega) (by omega) (by omega) (by omega) (by omega) c2).mono ?_
  rintro e w' ⟨rfl, rfl⟩
  exact ⟨rfl, by simpa using hT, Fr.refl _ _⟩
 obtain ⟨t, rfl⟩ := Int.eq_ofNat_of_zero_le (show 0 ≤ t by omega)
 simp only [not_or] at c2
 obtain ⟨d1, d2, d3, d4⟩ := c2
 have hs3 : kSort t = 1 ∨ kSort t = 2 ∨ kSort t = 3 := by unfold kSort; repeat' split <;> omega
 have hnl : n.length ≤ 1000 := by omega
 have c2' : ¬ (n = [44] ∨ n = [124] ∨ n = [91, 93] ∨ n = [123, 125]) := by simp only [not_or]; exact ⟨d1, d2, d3, d4⟩
 by_cases c3 : p = 0
 ·subst c3
  have e1 : opErr es 0 t n = 0 := by unfold opErr; rw [if_neg c1, if_neg c2', if_pos rfl]
  rw [e1, if_neg (by simp), if_pos rfl]
  rcases hs3 with hs | hs | hs <;> rw [hs]
  ·exact op_del1 w bt bm es hT hK hbb 0 t n hnl ⟨rfl, trivial⟩ (by omega) d1 d2 d3 d4 hs
  ·exact op_del2 w bt bm es hT hK hbb 0 t n hnl ⟨rfl, trivial⟩ (by omega) d1 d2 d3 d4 hs
  ·exact op_del3 w bt bm es hT hK hbb 0 t n hnl ⟨rfl, trivial⟩ (by omega) d1 d2 d3 d4 hs
 have e0 : opErr es p t n = if (kSort t = 2 ∧ (mget es (3, n)).isSome = true) ∨ (kSort t = 3 ∧ (mget es (2, n)).isSome = true) then 15
     else if 256 ≤ es.length ∧ (mget es (kSort t, n)).isSome = false then 9 else 0 := by unfold opErr; rw [if_neg c1, if_neg c2', if_neg c3]
 rcases hs3 with hs | hs | hs
 ·rw [hs] at e0 ⊢
  by_cases hr : 256 ≤ es.length
  ·cases hh : (mget es (1, n)).isSome
   ·have e1 : opErr es p t n = 9 := by rw [e0]; simp [hr, hh]
    rw [e1, if_pos (by simp)]
    exact op_full1 w bt bm es hT hK p t n hnl (by omega) (by omega) d1 d2 d3 d4 hs hr hh
   ·have e1 : opErr es p t n = 0 := by rw [e0]; simp [hh]
    rw [e1, if_neg (by simp), if_neg c3]
    exact op_ok11 w bt bm es hT hK hbb p t n hnl (by omega) (by omega) d1 d2 d3 d4 hs hr hh
  ·have e1 : opErr es p t n = 0 := by rw [e0]; simp [hr]
   rw [e1, if_neg (by simp), if_neg c3]
   exact op_ok10 w bt bm es hT hK hbb p t n hnl (by omega) (by omega) d1 d2 d3 d4 hs (by omega)
 ·rw [hs] at e0 ⊢
  cases hq : (mget es (3, n)).isSome
  ·by_cases hr : 256 ≤ es.length
   ·cases hh : (mget es (2, n)).isSome
    ·have e1 : opErr es p t n = 9 := by rw [e0]; simp [hr, hh, hq]
     rw [e1, if_pos (by simp)]
     exact op_full2 w bt bm es hT hK p t n hnl (by omega) (by omega) d1 d2 d3 d4 hs hr hh hq
    ·have e1 : opErr es p t n = 0 := by rw [e0]; simp [hh, hq]
     rw [e1, if_neg (by simp), if_neg c3]
     exact op_ok21 w bt bm es hT hK hbb p t n hnl (by omega) (by omega) d1 d2 d3 d4 hs hr hh hq
   ·have e1 : opErr es p t n = 0 := by rw [e0]; simp [hr, hq]
    rw [e1, if_neg (by simp), if_neg c3]
    exact op_ok20 w bt bm es hT hK hbb p t n hnl (by omega) (by omega) d1 d2 d3 d4 hs (by omega) hq
  ·have e1 : opErr es p t n = 15 := by rw [e0]; simp [hq]
   rw [e1, if_pos (by simp)]
   exact op_conf2 w bt bm es hT hK p t n hnl (by omega) (by omega) d1 d2 d3 d4 hs hq
 ·rw [hs] at e0 ⊢
  cases hq : (mget es (2, n)).isSome
  ·by_cases hr : 256 ≤ es.length
   ·cases hh : (mget es (3, n)).isSome
    ·have e1 : opErr es p t n = 9 := by rw [e0]; simp [hr, hh, hq]
     rw [e1, if_pos (by simp)]
     exact op_full3 w bt bm es hT hK p t n hnl (by omega) (by omega) d1 d2 d3 d4 hs hr hh hq
    ·have e1 : opErr es p t n = 0 := by rw [e0]; simp [hh, hq]
     rw [e1, if_neg (by simp), if_neg c3]
     exact op_ok31 w bt bm es hT hK hbb p t n hnl (by omega) (by omega) d1 d2 d3 d4 hs hr hh hq
   ·have e1 : opErr es p t n = 0 := by rw [e0]; simp [hr, hq]
    rw [e1, if_neg (by simp), if_neg c3]
    exact op_ok30 w bt bm es hT hK hbb p t n hnl (by omega) (by omega) d1 d2 d3 d4 hs (by omega) hq
  ·have e1 : opErr es p t n = 15 := by rw [e0]; simp [hq]
   rw [e1, if_pos (by simp)]
   exact op_conf3 w bt bm es hT hK p t n hnl (by omega) (by omega) d1 d2 d3 d4 hs hq
theorem list_of_all {α : Type} {Q : Nat → α → Prop} : ∀ (n : Nat), (∀ i, i < n → ∃ x, Q i x) → ∃ l : List α, l.length = n ∧ ∀ i x, l[i]? = some x → Q i x
 | 0, _ => ⟨[], rfl, fun i x h => by simp at h⟩
 | n + 1, h => by
  obtain ⟨l, h1, h2⟩ := list_of_all n fun i hi => h i (by omega)
  obtain ⟨y, hy⟩ := h n (by omega)
  refine ⟨l ++ [y], by simp [h1], fun i x hx => ?_⟩
  by_cases hi : i < l.length
  ·rw [List.getElem?_append_left hi] at hx
   exact h2 i x hx
  ·have hlt := (List.getElem?_eq_some_iff.1 hx).1
   simp at hlt
   have hi2 : i = l.length := by omega
   subst hi2
   rw [List.getElem?_append_right (Nat.le_refl _), Nat.sub_self] at hx
   have e : y = x := by simpa using hx
   subst e
   rw [h1]
   exact hy
section
variable {w w' : World} {B B0 : Nat} {Dn : List (Loc × Tm)} {Pd : List (Loc × Tm × Tm)}
theorem RenAt.read (h : RenAt w B B0 Dn []) : ∀ (m : Nat) (T : Tm) (p : Loc), T.size ≤ m → (p, T) ∈ Dn → ∃ x : TV, Cells4 w p x.k x.n x.s (.slice x.A x.len x.cap) ∧ TermS w (fun k => okB B k ∧ k < w.heap.size) x T
 | 0, T, _, hm, _ => by have := size_pos T; omega
 | m + 1, T, p, hm, hp => by
  obtain ⟨h0, sl, h1, h2⟩ := h.dn p T hp
  obtain ⟨k, n, s, l⟩ := T
  rcases h2 with ⟨h2, rfl⟩ | ⟨g, c, rfl, h3⟩
  ·have h2 : l = [] := h2
   subst h2
   exact ⟨⟨k, n, s, none, 0, 0⟩, h1, TermS.leaf _ _ k n s none 0 h0⟩
  ·have key : ∀ i, i < l.length → ∃ y : TV, Cells4 w (g, i * 4) y.k y.n y.s (.slice y.A y.len y.cap) ∧ TermS w (fun k => okB B k ∧ k < w.heap.size) y (l.getD i noTm) ∧ (okB B g ∧ g < w.heap.size) := fun i hi => by
    have hi2 : l[i]? = some (l.getD i noTm) := by rw [List.getD_eq_getElem?_getD, List.getElem?_eq_getElem hi]; rfl
    have hmem : l.getD i noTm ∈ l := List.mem_of_getElem? hi2
    rcases h3 i _ hi2 with h4 | ⟨t, h4⟩
    ·obtain ⟨y, y1, y2⟩ := RenAt.read h m (l.getD i noTm) (g, i * 4) (by have := mem_sizes l _ hmem; simp only [Tm.size] at hm; omega) h4
     have hl := h.loc (g, i * 4) (List.mem_append_left _ (List.mem_map_of_mem h4))
     exact ⟨y, y1, y2, hl.1, hl.2.1.lt⟩
    ·cases h4
   obtain ⟨xs, hx1, hx2⟩ : ∃ xs : List TV, xs.length = l.length ∧ ∀ i y, xs[i]? = some y → Cells4 w (g, i * 4) y.k y.n y.s (.slice y.A y.len y.cap) ∧ TermS w (fun k => okB B k ∧ k < w.heap.size) y (l.getD i noTm) ∧ (okB B g ∧ g < w.heap.size) := list_of_all l.length key
   refine ⟨⟨k, n, s, some ⟨g, 0, none⟩, l.length, c⟩, h1, .mk ⟨k, n, s, some ⟨g, 0, none⟩, l.length, c⟩ l xs hx1 rfl h0 (fun i y hy => ?_) (fun i y t hy ht => ?_)⟩
   ·obtain ⟨q1, q2, q3⟩ := hx2 i y hy
    refine ⟨g, 0, rfl, q3, fun j u hu => ?_⟩
    rw [Nat.zero_add]
    match j, hu with
    | 0, hu =>
     have hu : Value.int .i64 y.k = u := by simpa [encTV] using hu
     rw [← hu]; exact q1.c0
    | 1, hu =>
     have hu : Value.int .i64 y.n = u := by simpa [encTV] using hu
     rw [← hu]; exact q1.c1
    | 2, hu =>
     have hu : Value.string ⟨y.s.toArray⟩ = u := by simpa [encTV] using hu
     rw [← hu]; exact q1.c2
    | 3, hu =>
     have hu : Value.slice y.A y.len y.cap = u := by simpa [encTV] using hu
     rw [← hu]; exact q1.c3
    | j + 4, hu => simp [encTV] at hu
   ·have := (hx2 i y hy).2.1
    rwa [show l.getD i noTm = t by rw [List.getD_eq_getElem?_getD, ht]; rfl] at this
end
end Go.Proofs.YtcallkljcjimiaaGreatDoor
namespace Go.Proofs.YtcallkljcjimiaaGreatDoor
open Go.RowKit Go.Maps
set_option maxRecDepth 100000
theorem encN_len (x : Int) : (encN x).length = 1 := rfl
theorem encN_one (x : Int) : ∀ u ∈ encN x, u.oneCell' = true := by
 intro u hu
 simp only [encN, List.mem_cons, List.mem_nil_iff, or_false] at hu
 subst hu
 rfl
theorem i64_info : ∃ i z, Tryz.prog.info? 2 = some i ∧ i.zero = some z ∧ i.size = 1 ∧ i.bytes = 8 ∧ z.cells.size = 1 := by
 refine ⟨_, _, rfl, rfl, ?_, ?_, ?_⟩ <;> kernel_rfl
theorem i64KE : KE Tryz.prog 2 evI okI :=
 ⟨int_keyed Tryz.underlying2, fun _ hk => ⟨_, keyOf_int_mk Tryz.underlying2 (int_wf hk.1 hk.2)⟩, fun a b h => by simpa [evI] using h⟩
theorem idxL_snoc (l : List Int) (n : Int) : idxL (l ++ [n]) = idxL l ++ [(n, (l.length : Int))] := by
 unfold idxL idxF
 rw [List.zipIdx_append]
 simp
theorem mget_idxF (n : Int) : ∀ (l : List Int) (k : Nat), mget (idxF l k) n = if n ∈ l then some (((l.idxOf n + k : Nat)) : Int) else none
 | [], k => by simp [idxF, mget_nil]
 | x :: l, k => by
  have ih := mget_idxF n l (k + 1)
  unfold idxF at ih ⊢
  rw [List.zipIdx_cons, List.map_cons, mget_cons, ih]
  by_cases e : x = n
  ·subst e
   simp
  ·have e2 : ¬ n = x := fun h => e h.symm
   rw [if_neg e, List.idxOf_cons]
   have e3 : (x == n) = false := by simpa using e
   rw [e3]
   by_cases hm : n ∈ l
   ·rw [if_pos hm, if_pos (List.mem_cons_of_mem _ hm)]
    simp only [cond_false]
    congr 2
    omega
   ·rw [if_neg hm, if_neg (by simp [e2, hm])]
theorem mget_idxL (l : List Int) (n : Int) : mget (idxL l) n = if n ∈ l then some ((l.idxOf n : Nat) : Int) else none := mget_idxF n l 0
theorem idxL_keys (l : List Int) : (idxL l).map (·.1) = l := by
 unfold idxL idxF
 rw [List.map_map]
 have : ((fun x : Int × Int => x.1) ∘ fun p : Int × Nat => (p.1, (p.2 : Int))) = Prod.fst := rfl
 rw [this, List.zipIdx_map_fst]
def addN (l : List Int) (n : Int) : List Int := if n ∈ l then l else l ++ [n]
theorem addN_len (l : List Int) (n : Int) : (addN l n).length ≤ l.length + 1 := by
 unfold addN
 split
 ·exact Nat.le_succ _
 ·rw [List.length_append]; exact Nat.le_refl _
def SnS (w : World) (B b mb : Nat) (k : Nat) : Prop := k = b ∨ k = mb ∨ (B ≤ k ∧ TyB w 2 k)
theorem seen_look {u : World} {mb : Nat} {l : List Int} (hm : MapAt u mb evI evI (idxL l)) (hok : ∀ n ∈ l, okI n) (n : Int) (hn : okI n) :
    (Instr.lookup 165 (.map (some mb)) (.int .i64 n) true).run Tryz.prog u = .ok (.tuple #[.int .i64 (if n ∈ l then ((l.idxOf n : Nat) : Int) else 0), .bool (decide (n ∈ l))]) u := by
 have hk : ∀ x ∈ idxL l, okI x.1 := fun x hx => hok _ (by rw [← idxL_keys l]; exact List.mem_map_of_mem hx)
 have := hm.lookup (t := 165) i64KE Tryz.underlying165 (z := .int .i64 0) (fun u => by kernel_rfl) hk (k := n) hn true
 simp only [if_true] at this
 rw [mget_idxL] at this
 by_cases hm' : n ∈ l
 ·rw [if_pos hm'] at this ⊢
  rw [decide_eq_true hm']
  exact this
 ·rw [if_neg hm'] at this ⊢
  rw [decide_eq_false hm']
  exact this
theorem seen_put {u : World} {mb : Nat} {l : List Int} (hm : MapAt u mb evI evI (idxL l)) (hok : ∀ n ∈ l, okI n) (n : Int) (hn : okI n) (hx : n ∉ l) :
    ∃ w', (Instr.mapUpdate 165 (.map (some mb)) (.int .i64 n) (.int .i64 (l.length : Int))).run Tryz.prog u = .ok () w' ∧ MapAt w' mb evI evI (idxL (l ++ [n])) ∧ u.grownBy w' (some mb) ∧ w'.heap.size = u.heap.size := by
 have hk : ∀ x ∈ idxL l, okI x.1 := fun x hx => hok _ (by rw [← idxL_keys l]; exact List.mem_map_of_mem hx)
 obtain ⟨w', h1, h2, h3, h4⟩ := MapAt.update (P := Tryz.prog) (t := 165) i64KE Tryz.underlying165 hm hk (k := n) hn (l.length : Int)
 have hp : mput (idxL l) n (l.length : Int) = idxL (l ++ [n]) := by
  rw [idxL_snoc]
  unfold mput
  rw [mget_idxL, if_neg hx]
  simp
 rw [hp] at h2
 exact ⟨w', h1, h2, h3, h4⟩
set_option maxHeartbeats 4000000 in
theorem number_old (w : World) (B b mb : Nat) (l : List Int) (h : SeenAt w B b mb l) (n : Int) (hn : okI n) (hm : n ∈ l) :
    Calls Tryz.prog 102 #[.pointer (some ⟨b, 0, none⟩), .int .i64 n] w fun e w' => e = .returned (.int .i64 (l.idxOf n : Int)) ∧ w' = w := by
 obtain ⟨A, c, hb, hr⟩ := h.blk
 have hlk := seen_look h.map h.ok n hn
 rw [if_pos hm, decide_eq_true hm] at hlk
 have c1 : w.cell? ⟨b, 1, none⟩ = some (.map (some mb)) := by rw [cell_of_row w b 1 _ _ (0, 0) hb]; rfl
 clear hr hb h
 go_enter Tryz.func102, Tryz.ntmps102
 go_wp2_with fail
 go_ret
 exact ⟨rfl, rfl⟩
set_option maxHeartbeats 4000000 in
theorem number_new (w : World) (B b mb : Nat) (l : List Int) (h : SeenAt w B b mb l) (n : Int) (hn : okI n) (hm : n ∉ l) (hl : l.length ≤ 100000000) (hB : B ≤ w.heap.size) :
    Calls Tryz.prog 102 #[.pointer (some ⟨b, 0, none⟩), .int .i64 n] w fun e w' => e = .returned (.int .i64 (l.length : Int)) ∧ SeenAt w' B b mb (l ++ [n]) ∧ Fr (SnS w B b mb) w w' := by
 obtain ⟨A, c, hb, hr⟩ := h.blk
 have hlk := seen_look h.map h.ok n hn
 rw [if_neg hm, decide_eq_false hm] at hlk
 obtain ⟨w1, hup, hM1, hG1, hs1⟩ := seen_put h.map h.ok n hn hm
 have hbl := h.lt
 have hne : b ≠ mb := by
  intro e
  exact h.map.ne (b' := b) (t := 168) ⟨_, hb⟩ e.symm
 have hb1 : w1.heap[b]? = some (.cells #[.slice A l.length c, .map (some mb)] 168 (0, 0)) := (hG1.block b hbl (fun e => hne (by injection e))).trans hb
 have hr1 : Row w1 B 2 1 encN (.slice A l.length c) l := hr.keep fun k hk => hG1.block k (hr.lt k hk).2 (fun e => by have h1 := (hr.lt k hk).1; have h2 := h.mB; injection e with e; omega)
 have c0 : w.cell? ⟨b, 0, none⟩ = some (.slice A l.length c) := by rw [cell_of_row w b 0 _ _ (0, 0) hb]; rfl
 have c1 : w.cell? ⟨b, 1, none⟩ = some (.map (some mb)) := by rw [cell_of_row w b 1 _ _ (0, 0) hb]; rfl
 have d0 : w1.cell? ⟨b, 0, none⟩ = some (.slice A l.length c) := by rw [cell_of_row w1 b 0 _ _ (0, 0) hb1]; rfl
 have hbl1 : b < w1.heap.size := by omega
 have HR1 := Lib.hid hr1
 have HM1 := Lib.hid hM1
 have HG1 := Lib.hid hG1
 have HB1 := Lib.hid hb1
 have HH := Lib.hid h
 have HS1 := Lib.hid hs1
 have HBw := Lib.hid hB
 have HLL := Lib.hid hl
 have HOK := Lib.hid hn
 have HNE := Lib.hid hne
 obtain ⟨i0, z0, hi0, hz0, hz1, hz2, hz3⟩ := i64_info
 clear hr hr1 hM1 hG1 h hb hb1 hs1 hB
 go_enter Tryz.func102, Tryz.ntmps102
 go_wp2_with (at_builtin; refine wpList_row rfl _ _ 166 rfl _ B 2 i0 z0 1 8 encN Tryz.underlying166 hi0 hz0 hz1 hz2 hz3 (by decide) encN_len encN_one _ l n rfl (HR1.out.alloc _) _ _ rfl (fun j u hu => cell_made w1 _ _ j u (by rw [← Array.getElem?_toList]; exact hu)) (by have := HLL.out; unfold maxLen; omega) (by have := HLL.out; omega) (by have := HBw.out; have := HS1.out; simp; omega) ?_)
 intro v' w5 hrow5 hg5
 obtain ⟨A5, c5, rfl⟩ := hrow5.shape
 have hlt5 : b < (w1.alloc (.cells #[.int .i64 n] 2)).heap.size := by simp; omega
 have hown : ∀ g, (Value.slice A l.length c).ownBlock = some g → B ≤ g ∧ TyB w 2 g := fun g hg => by
  have h1 := HR1.out.lt g hg
  obtain ⟨cs, h2⟩ := HR1.out.ty hg
  have h3 := HG1.out.block g (by have := HS1.out; omega) (fun e => by have h4 := HH.out.mB; injection e with e; omega)
  exact ⟨h1.1, cs, h3.symm.trans h2⟩
 have hb5 : w5.heap[b]? = some (.cells #[.slice A l.length c, .map (some mb)] 168 (0, 0)) := by
  rw [hg5.block b hlt5 (fun e => by have h1 := (hown b e.symm).1; have h2 := HH.out.bB; omega), Below.heap_alloc _ _ _ hbl1]
  exact HB1.out
 have hm5 : w5.heap[mb]? = w1.heap[mb]? := by
  have := HM1.out.lt
  rw [hg5.block mb (by simp; omega) (fun e => by have h1 := (hown mb e.symm).1; have h2 := HH.out.mB; omega), Below.heap_alloc _ _ _ this]
 have e0 : w5.cell? ⟨b, 0, none⟩ = some (.slice A l.length c) := by rw [cell_of_row w5 b 0 _ _ (0, 0) hb5]; rfl
 have ef : w5.frozen? ⟨b, 0, none⟩ = false := by simp [World.frozen?, hb5]
 have hF : Fr (SnS w B b mb) w w5 := (((Fr.refl (SnS w B b mb) w).grown HG1.out fun g e => .inl (by cases e; exact .inr (.inl rfl))).alloc _).grown hg5 fun g e => .inl (.inr (.inr (hown g e)))
 have hS6 : SeenAt (w5.setCell ⟨b, 0, none⟩ (.slice A5 (l ++ [n]).length c5)) B b mb (l ++ [n]) := by
  refine ⟨⟨A5, c5, blk_put hb5 _, hrow5.away _ fun k hk => by have h1 := (hrow5.lt k hk).1; have h2 := HH.out.bB; simp only; omega⟩, ?_, HH.out.bB, HH.out.mB, fun x hx => ?_⟩
  ·exact (HM1.out.keep hm5).setCell (p := ⟨b, 0, none⟩) (by simp only; exact fun e => HNE.out e.symm) _
  ·rcases List.mem_append.1 hx with hx | hx
   ·exact HH.out.ok x hx
   ·rw [List.mem_singleton] at hx
    subst hx
    exact HOK.out
 have HS6 := Lib.hid hS6
 have HF6 := Lib.hid (hF.setCell (p := ⟨b, 0, none⟩) (.inl (.inl rfl)) (.slice A5 (l ++ [n]).length c5))
 clear hrow5 hg5 hown hb5 hm5 hF hS6 c0 c1 d0
 generalize (l ++ [n]).length = m5 at HS6 HF6 ⊢
 go_wp2_with fail
 go_ret
 exact ⟨rfl, HS6.out, HF6.out⟩
theorem nseen_any (w : World) (B b mb : Nat) (l : List Int) (h : SeenAt w B b mb l) (n : Int) (hn : okI n) (hl : l.length ≤ 100000000) (hB : B ≤ w.heap.size) :
    Calls Tryz.prog 102 #[.pointer (some ⟨b, 0, none⟩), .int .i64 n] w fun e w' => e = .returned (.int .i64 (l.idxOf n : Int)) ∧ SeenAt w' B b mb (addN l n) ∧ Fr (SnS w B b mb) w w' := by
 unfold addN
 by_cases hm : n ∈ l
 ·refine (number_old w B b mb l h n hn hm).mono ?_
  rintro e w' ⟨rfl, rfl⟩
  rw [if_pos hm]
  exact ⟨rfl, h, Fr.refl _ _⟩
 ·refine (number_new w B b mb l h n hn hm hl hB).mono ?_
  rintro e w' ⟨rfl, h1, h2⟩
  rw [if_neg hm, List.idxOf_eq_length hm]
  exact ⟨rfl, h1, h2⟩
theorem flat4 : ∀ (xs : List TV) (j : Nat) (v : Value), (xs.flatMap encTV)[j]? = some v → ∃ y, xs[j / 4]? = some y ∧ (encTV y)[j % 4]? = some v
 | [], j, v, h => by simp at h
 | x :: r, j, v, h => by
  rw [List.flatMap_cons] at h
  by_cases hj : j < 4
  ·rw [List.getElem?_append_left (by rw [encTV_len]; exact hj)] at h
   exact ⟨x, by rw [show j / 4 = 0 by omega]; rfl, by rw [show j % 4 = j by omega]; exact h⟩
  ·rw [List.getElem?_append_right (by rw [encTV_len]; omega), encTV_len] at h
   obtain ⟨y, h1, h2⟩ := flat4 r (j - 4) v h
   refine ⟨y, ?_, ?_⟩
   ·rw [show j / 4 = (j - 4) / 4 + 1 by omega, List.getElem?_cons_succ]
    exact h1
   ·rw [show j % 4 = (j - 4) % 4 by omega]
    exact h2
theorem addr_add (b o j : Nat) : (⟨b, o, none⟩ : Addr).add j = ⟨b, o + j, none⟩ := by unfold Addr.add; split <;> simp_all
theorem flat_len4 (xs : List TV) : (xs.flatMap encTV).length = xs.length * 4 := by
 induction xs with
 | nil => rfl
 | cons x r ih =>
  rw [List.flatMap_cons, List.length_append, ih, encTV_len, List.length_cons]
  omega
theorem args_of {w : World} {B : Nat} {x : TV} {t : Tm} (h : TermAt w B x t) (h0 : 0 < x.len) :
    ∃ (xs : List TV) (b off : Nat), xs.length = x.len ∧ x.A = some ⟨b, off, none⟩ ∧ b < B ∧ (∀ i y, xs[i]? = some y → ∀ (j : Nat) u, (encTV y)[j]? = some u → w.cell? ⟨b, off + i * 4 + j, none⟩ = some u) ∧ (∀ i y, xs[i]? = some y → TermAt w B y (t.args.getD i noTm)) := by
 cases h with
 | mk _ args xs h1 h2 h3 hc ht =>
  obtain ⟨y0, hy0⟩ : ∃ y, xs[0]? = some y := ⟨_, List.getElem?_eq_getElem (by omega)⟩
  obtain ⟨b, off, e1, e2, -⟩ := hc 0 y0 hy0
  refine ⟨xs, b, off, h1, e1, e2, fun i y hy j u hu => ?_, fun i y hy => ?_⟩
  ·obtain ⟨b', off', e1', -, e3'⟩ := hc i y hy
   rw [e1] at e1'
   injection e1' with e1'
   injection e1' with q1 q2
   subst q1 q2
   exact e3' j u hu
  ·have hi := (List.getElem?_eq_some_iff.1 hy).1
   exact ht i y _ hy (by show args[i]? = some (args.getD i noTm); rw [List.getD_eq_getElem?_getD, List.getElem?_eq_getElem (by omega)]; rfl)
theorem run_copy_rows {P : Program} (w : World) (dT sT ty elem : TypeId) (sz g dLen dCap : Nat) (a : Addr) (sLen sCap : Nat) (cur : Array Value) (t : TypeId) (cs : List Value)
    (hu : P.underlying dT = some (.slice elem)) (hs : (P.info? elem).map (·.size) = some sz)
    (hg : w.heap[g]? = some (.cells cur t (0, 0))) (hn : cs.length = Nat.min sLen dLen * sz)
    (hsrc : ∀ j v, cs[j]? = some v → w.cell? (a.add j) = some v) (hfit : cs.length ≤ cur.size) (h1 : ∀ v ∈ cs, v.oneCell' = true) :
    (Builtin.copy_ #[dT, sT] ty #[.slice (some ⟨g, 0, none⟩) dLen dCap, .slice (some a) sLen sCap]).run P w =
      .ok (goInt (Nat.min sLen dLen)) (w.setRow g (cs ++ cur.toList.drop cs.length).toArray) := by
 have hl := run_loadCells_list (P := P) w a cs hsrc
 have hst := run_storeCells_at P g 0 t cs 0 cur w hg (by simpa using hfit) h1
 cases hq : P.info? elem with
 | none => simp [hq] at hs
 | some i =>
  have hi : i.size = sz := by simpa [hq] using hs
  simp [Builtin.copy_, run_underlying hu, Builtin.lenOf, Builtin.firstCells, sizeOf, typeInfo, hq, hi, ← hn, hl, hst]
theorem setRow_new (w : World) (c0 cs : Array Value) (e : TypeId) : (w.alloc (.cells c0 e)).setRow w.heap.size cs = w.alloc (.cells cs e) := by
 unfold World.setRow World.alloc
 congr 1
 refine Array.ext_getElem? fun i => ?_
 rw [Array.getElem?_modify, Array.getElem?_push, Array.getElem?_push]
 by_cases h : w.heap.size = i
 ·subst h
  simp
 ·have h2 : ¬ i = w.heap.size := fun e => h e.symm
  rw [if_neg h, if_neg h2, if_neg h2]
def numI (seen : List Int) (n : Int) : Int × List Int := ((seen.idxOf n : Nat), addN seen n)
theorem renTs_app (nu : List Int → Int → Int × List Int) : ∀ (a b : List Tm) (seen : List Int), renTs nu seen (a ++ b) = ((renTs nu seen a).1 ++ (renTs nu (renTs nu seen a).2 b).1, (renTs nu (renTs nu seen a).2 b).2)
 | [], b, seen => by rw [List.nil_append, renTs]; simp
 | t :: a, b, seen => by rw [List.cons_append, renTs, renTs_app nu a b, renTs]; rfl
theorem renTs_len (nu : List Int → Int → Int × List Int) : ∀ (l : List Tm) (seen : List Int), (renTs nu seen l).1.length = l.length
 | [], seen => by rw [renTs]
 | t :: r, seen => by rw [renTs, List.length_cons, List.length_cons, renTs_len nu r]
end Go.Proofs.YtcallkljcjimiaaGreatDoor
