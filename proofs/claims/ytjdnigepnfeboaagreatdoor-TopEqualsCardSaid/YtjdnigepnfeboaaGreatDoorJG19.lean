import Derived.Test.YtjdnigepnfeboaaGreatDoorJG18
namespace Go.Proofs.YtjdnigepnfeboaaGreatDoor
open Go.RowKit Go.Maps
set_option maxRecDepth 100000
def FrLt (p : PS) : Prop := ∀ x ∈ p.fr, x.2 < p.cs.length
structure PutMem (p q : PS) (m : Nat) : Prop where
 ge : p.cs.length ≤ q.cs.length
 le : q.cs.length ≤ p.cs.length + m
 old : ∀ i, i < p.cs.length → q.cs[i]? = p.cs[i]?
 fr : FrLt q
theorem PutMem.trans {p q r : PS} {m n : Nat} (h : PutMem p q m) (h' : PutMem q r n) : PutMem p r (m + n) :=
 ⟨Nat.le_trans h.ge h'.ge, by have := h.le; have := h'.le; omega, fun i hi => (h'.old i (Nat.lt_of_lt_of_le hi h.ge)).trans (h.old i hi), h'.fr⟩
theorem PutMem.add (p : PS) (c : Sc) (fr : List (Int × Nat)) (hf : ∀ x ∈ fr, x ∈ p.fr ∨ x.2 = p.cs.length) (h : FrLt p) : PutMem p ⟨p.cs ++ [c], fr⟩ 1 :=
 ⟨by simp, by simp, fun i hi => List.getElem?_append_left hi, fun x hx => by
  show x.2 < (p.cs ++ [c]).length
  rw [List.length_append, List.length_singleton]
  rcases hf x hx with e | e
  ·have := h x e; omega
  ·omega⟩
mutual
theorem putT_mem : ∀ (t : Tm) (p : PS), FrLt p → PutMem p (putT t p).2 t.size ∧ (putT t p).1 < (putT t p).2.cs.length
 | .mk k n s l, p, h => by
  by_cases h1 : k = 1
  ·cases hg : mget p.fr n with
   | some a =>
    have e : putT (.mk k n s l) p = (a, p) := by rw [putT, if_pos h1, hg]
    rw [e]
    exact ⟨⟨Nat.le_refl _, Nat.le_add_right _ _, fun _ _ => rfl, h⟩, h _ (mget_mem hg)⟩
   | none =>
    have e : putT (.mk k n s l) p = (p.cs.length, ⟨p.cs ++ [⟨1, 0, [], [], none⟩], p.fr ++ [(n, p.cs.length)]⟩) := by rw [putT, if_pos h1, hg]
    rw [e]
    have := PutMem.add p ⟨1, 0, [], [], none⟩ (p.fr ++ [(n, p.cs.length)]) (fun x hx => (List.mem_append.1 hx).imp id fun e => by rw [List.mem_singleton] at e; rw [e]) h
    exact ⟨⟨this.ge, by simp only [Tm.size, List.length_append, List.length_singleton]; omega, this.old, this.fr⟩, by simp⟩
  ·by_cases h4 : k = 4
   ·have e : putT (.mk k n s l) p = (p.cs.length, ⟨(putL l ⟨p.cs ++ [⟨4, 0, s, [], none⟩], p.fr⟩).2.cs.set p.cs.length ⟨4, 0, s, (putL l ⟨p.cs ++ [⟨4, 0, s, [], none⟩], p.fr⟩).1, none⟩, (putL l ⟨p.cs ++ [⟨4, 0, s, [], none⟩], p.fr⟩).2.fr⟩) := by rw [putT, if_neg h1, if_pos h4]
    rw [e]
    have h5 := PutMem.add p ⟨4, 0, s, [], none⟩ p.fr (fun x hx => .inl hx) h
    obtain ⟨h6, -, -⟩ := putL_mem l _ h5.fr
    have h7 := h5.trans h6
    have h8 := h6.ge
    simp only [List.length_append, List.length_singleton] at h8
    refine ⟨⟨by simp only [List.length_set]; exact h7.ge, by simp only [List.length_set, Tm.size]; have := h7.le; omega, fun i hi => ?_, fun x hx => ?_⟩, by simp only [List.length_set]; omega⟩
    ·simp only
     rw [List.getElem?_set_ne (by omega)]
     exact h7.old i hi
    ·show x.2 < (List.set _ _ _).length
     rw [List.length_set]
     exact h7.fr x hx
   ·have e : putT (.mk k n s l) p = (p.cs.length, ⟨p.cs ++ [⟨k, n, s, [], none⟩], p.fr⟩) := by rw [putT, if_neg h1, if_neg h4]
    rw [e]
    have := PutMem.add p ⟨k, n, s, [], none⟩ p.fr (fun x hx => .inl hx) h
    exact ⟨⟨this.ge, by simp only [Tm.size, List.length_append, List.length_singleton]; omega, this.old, this.fr⟩, by simp⟩
theorem putL_mem : ∀ (l : List Tm) (p : PS), FrLt p → PutMem p (putL l p).2 (Tm.sizes l) ∧ (∀ a ∈ (putL l p).1, a < (putL l p).2.cs.length) ∧ (putL l p).1.length = l.length
 | [], p, h => by
  rw [putL]
  exact ⟨⟨Nat.le_refl _, Nat.le_refl _, fun _ _ => rfl, h⟩, fun a ha => (by cases ha), rfl⟩
 | t :: r, p, h => by
  obtain ⟨h1, h2⟩ := putT_mem t p h
  obtain ⟨h3, h4, h5⟩ := putL_mem r _ h1.fr
  rw [putL]
  refine ⟨h1.trans h3, fun a ha => ?_, by simp [h5]⟩
  rcases List.mem_cons.1 ha with rfl | ha
  ·exact Nat.lt_of_lt_of_le h2 h3.ge
  ·exact h4 a ha
end
variable [Base]
set_option linter.unusedSectionVars false
omit [Base] in
theorem putL_snoc : ∀ (l : List Tm) (t : Tm) (p : PS), putL (l ++ [t]) p = ((putL l p).1 ++ [(putT t (putL l p).2).1], (putT t (putL l p).2).2)
 | [], t, p => by rw [List.nil_append, putL, putL, putL]; rfl
 | a :: r, t, p => by rw [List.cons_append, putL, putL_snoc r t, putL]; rfl
omit [Base] in
theorem Root.args {cs : List Sc} {i j q : Nat} {c : Sc} {l : List Nat} (hc : cs[q]? = some c) (h : Root cs i j) : Root (cs.set q { c with args := l }) i j := by
 induction h with
 | @here i d h ht =>
  by_cases e : i = q
  ·subst e
   rw [hc] at h
   injection h with h
   subst h
   exact .here (c := { c with args := l }) (List.getElem?_set_self (List.getElem?_eq_some_iff.1 hc).1) ht
  ·exact .here (by rw [List.getElem?_set_ne (Ne.symm e)]; exact h) ht
 | @step i k r d h ht _ ih =>
  by_cases e : i = q
  ·subst e
   rw [hc] at h
   injection h with h
   subst h
   exact .step (c := { c with args := l }) (List.getElem?_set_self (List.getElem?_eq_some_iff.1 hc).1) ht ih
  ·exact .step (by rw [List.getElem?_set_ne (Ne.symm e)]; exact h) ht ih
section
variable {sb room : Nat} {u u' : World} {cv bv : Value} {xs : List ScM} {cs : List Sc} {ys : List (Nat × Int)}
theorem StAt.args' {g cap : Nat} (h : StAt sb room u (.slice (some ⟨g, 0, none⟩) cs.length cap) bv xs cs ys) {i : Nat} {x : ScM} {c : Sc} (hx : xs[i]? = some x) (hc : cs[i]? = some c) {A : Option Addr} {l : List Nat} {m cp : Nat} (hm : m = l.length) (ha : ArgsAt u A l) (hl : ∀ a ∈ l, a < cs.length) (h255 : l.length ≤ 255) :
    StAt sb room (u.setCell ⟨g, i * 6 + 3, none⟩ (.slice A m cp)) (.slice (some ⟨g, 0, none⟩) cs.length cap) bv (xs.set i { x with A := A, m := m, c := cp }) (cs.set i { c with args := l }) ys := by
 have hg : TyB u 366 g := h.row.ty rfl
 have hk : ∀ {b t'}, TyB u t' b → t' ≠ 366 → (u.setCell ⟨g, i * 6 + 3, none⟩ (.slice A m cp)).heap[b]? = u.heap[b]? := fun hb hn => Below.heap_setCell _ _ _ _ (hb.ne hg hn)
 refine ⟨(hk ⟨_, h.blk⟩ (by decide)).trans h.blk, h.row.put encM_len hx (by decide) rfl, h.bonds.keep fun k hk' => hk (h.bonds.ty hk') (by decide), by rw [List.length_set, List.length_set]; exact h.len, fun j y d hy hd => ?_, by rw [List.length_set]; exact h.few, h.room, fun j hj => ?_, fun j d hd a haa => ?_, fun j d hd => ?_, fun y hy => by rw [List.length_set]; exact h.bnd y hy, h.many⟩
 ·by_cases e : j = i
  ·subst e
   rw [List.getElem?_set_self (List.getElem?_eq_some_iff.1 hx).1] at hy
   rw [List.getElem?_set_self (List.getElem?_eq_some_iff.1 hc).1] at hd
   injection hy with hy
   injection hd with hd
   subst hy hd
   have ho := h.ok j x c hx hc
   exact ⟨ho.k, ho.n, ho.s, ho.to, hm, ha.keep fun b hb => hk hb (by decide), ho.short, ho.top⟩
  ·rw [List.getElem?_set_ne (Ne.symm e)] at hy hd
   have ho := h.ok j y d hy hd
   exact ⟨ho.k, ho.n, ho.s, ho.to, ho.m, ho.args.keep fun b hb => hk hb (by decide), ho.short, ho.top⟩
 ·rw [List.length_set] at hj
  obtain ⟨r, hr⟩ := h.flw j hj
  exact ⟨r, hr.args hc⟩
 ·rw [List.length_set]
  by_cases e : j = i
  ·subst e
   rw [List.getElem?_set_self (List.getElem?_eq_some_iff.1 hc).1] at hd
   injection hd with hd
   subst hd
   exact hl a haa
  ·rw [List.getElem?_set_ne (Ne.symm e)] at hd
   exact h.args j d hd a haa
 ·by_cases e : j = i
  ·subst e
   rw [List.getElem?_set_self (List.getElem?_eq_some_iff.1 hc).1] at hd
   injection hd with hd
   subst hd
   exact h255
  ·rw [List.getElem?_set_ne (Ne.symm e)] at hd
   exact h.ar j d hd
end
def frI (fr : List (Int × Nat)) : List (Int × Int) := fr.map fun x => (x.1, (x.2 : Int))
omit [Base] in
theorem frI_get (fr : List (Int × Nat)) (n : Int) : mget (frI fr) n = (mget fr n).map (fun a : Nat => (a : Int)) := by
 unfold frI mget
 rw [List.find?_map, Option.map_map, Option.map_map]
 rfl
omit [Base] in
theorem frI_put (fr : List (Int × Nat)) (n : Int) (a : Nat) (h : mget fr n = none) : mput (frI fr) n (a : Int) = frI (fr ++ [(n, a)]) := by
 unfold mput
 rw [frI_get, h]
 simp [frI]
end Go.Proofs.YtjdnigepnfeboaaGreatDoor
namespace Go.Proofs.YtjdnigepnfeboaaGreatDoor
open Go.RowKit Go.Maps
set_option maxRecDepth 100000
variable [Base]
set_option linter.unusedSectionVars false
def PutOut (pb sb vb fb room : Nat) (u : World) (bv : Value) (xs : List ScM) (need : Nat) (cs : List Sc) (fr : List (Int × Nat)) (ys : List (Nat × Int)) (t : Tm) (e : Ending) (u' : World) : Prop :=
 e = .returned (.int .i64 ((putT t ⟨cs, fr⟩).1 : Nat)) ∧ PcAt pb sb vb fb u' need (frI (putT t ⟨cs, fr⟩).2.fr) ∧ (∃ cv' xs', StAt sb room u' cv' bv xs' (putT t ⟨cs, fr⟩).2.cs ys ∧ ∀ b, ABs xs' b → ABs xs b ∨ u.heap.size ≤ b) ∧ Fr (fun k => k = fb ∨ TyIn stP u k) u u'
section
variable {pb sb vb fb room : Nat} {u u' : World} {need : Nat} {cv bv : Value} {xs : List ScM} {cs : List Sc} {fr : List (Int × Nat)} {ys : List (Nat × Int)}
theorem PcAt.tf {l : List (Int × Int)} {tys : List TypeId} (h : PcAt pb sb vb fb u need l) (hf : TF tys u u') (hn : 383 ∉ tys) : PcAt pb sb vb fb u' need l :=
 ⟨(hf.block (t := 383) ⟨_, h.blk⟩ hn).trans h.blk, ⟨hf.map h.vars.map, h.vars.ok⟩, ⟨hf.map h.fresh.map, h.fresh.ok⟩, h.ne⟩
theorem fr_tf (h : TF stP u u') (fb : Nat) : Fr (fun k => k = fb ∨ TyIn stP u k) u u' := h.fr.weak fun _ hk => .inr hk
set_option maxHeartbeats 8000000 in
theorem put_var (u : World) (x : TV) (hk : x.k = 1) (hn : ok6 x.n) (hp : PcAt pb sb vb fb u need (frI fr)) (hs : StAt sb room u cv bv xs cs ys) (hr : cs.length + 1 ≤ room) :
    Calls Tryz.prog 263 #[.pointer (some ⟨pb, 0, none⟩), tvV x] u (PutOut pb sb vb fb room u bv xs need cs fr ys (.mk 1 x.n [] [])) := by
 obtain ⟨P, hP⟩ : ∃ P : Ending → World → Prop, P = PutOut pb sb vb fb room u bv xs need cs fr ys (.mk 1 x.n [] []) := ⟨_, rfl⟩
 rw [← hP]
 have HP := Lib.hid hP
 obtain ⟨k, n, s, A, len, c⟩ := x
 simp only at hk hn hP HP
 subst hk
 obtain ⟨U, hU⟩ : ∃ U, U = u.alloc (.cells #[.int .i64 1, .int .i64 n, .string ⟨s.toArray⟩, .slice A len c] 27) := ⟨_, rfl⟩
 have hbU : Below u.heap.size u U := by rw [hU]; exact (Below.refl _ _).alloc (Nat.le_refl _) _
 have hz : U.heap[u.heap.size]? = some (.cells #[.int .i64 1, .int .i64 n, .string ⟨s.toArray⟩, .slice A len c] 27 (0, 0)) := by rw [hU]; exact heap_alloc_new _ _
 obtain ⟨z0, z1, z2, z3, -⟩ := four_at hz
 obtain ⟨p0, p1, p2, p3, pf⟩ := four_at (hp.later hbU).blk
 have hlU := (hp.later hbU).lt
 have hlz : u.heap.size < U.heap.size := (Array.getElem?_eq_some_iff.1 hz).1
 have k1 := ((hp.later hbU).vars.later (Below.refl _ _).drew).miss n hn
 have H := Lib.hid (And.intro (hp.later hbU) (hs.later hbU))
 have HB := Lib.hid hbU
 have HZ := Lib.hid hz
 clear hP hp hs hbU hz
 unfold tvV
 go_enter Tryz.func263, Tryz.ntmps263
 go_upto_region 1 with fail
 rw [← hU]
 clear hU
 go_upto_region 3 with fail
 go_region
 obtain ⟨V, hV⟩ : ∃ V, V = U.drew := ⟨_, rfl⟩
 have hbV : Below U.heap.size U V := by rw [hV]; exact (Below.refl _ _).drew
 rw [← hV]
 clear k1 p0 p1 p2 p3 pf z0 z1 z2 z3 hlU
 have HV := Lib.hid (And.intro (H.out.1.later hbV) (H.out.2.later hbV))
 have hz : V.heap[u.heap.size]? = some (.cells #[.int .i64 1, .int .i64 n, .string ⟨s.toArray⟩, .slice A len c] 27 (0, 0)) := (hbV.block _ hlz).trans HZ.out
 obtain ⟨z0, z1, z2, z3, -⟩ := four_at hz
 obtain ⟨p0, p1, p2, p3, pf⟩ := four_at HV.out.1.blk
 have hlV := HV.out.1.lt
 have HBV := Lib.hid (below_then HB.out hbV)
 have hlz2 : u.heap.size < V.heap.size := (Array.getElem?_eq_some_iff.1 hz).1
 have HZV := Lib.hid hz
 clear hV hbV H HB hz hlz HZ
 cases hg : mget fr n with
 | some a =>
  have hg2 : mget (frI fr) n = some (a : Int) := by rw [frI_get, hg]; rfl
  have k2 := (HV.out.1.fresh.later (Below.refl _ _).drew).hit n hn hg2
  have HQ : Hid (P (.returned (.int .i64 (a : Nat))) V.drew) := Lib.hid (by
   have e : putT (.mk 1 n [] []) ⟨cs, fr⟩ = (a, ⟨cs, fr⟩) := by rw [putT, if_pos rfl, hg]
   rw [HP.out]
   unfold PutOut
   rw [e]
   exact ⟨rfl, HV.out.1.later (Below.refl _ _).drew, ⟨_, _, HV.out.2.later (Below.refl _ _).drew, fun b hb => .inl hb⟩, Fr.of_below _ HBV.out.drew⟩)
  clear hg hg2
  go_upto_region 6 with fail
  go_region
  go_wp2_with fail
  exact HQ.out
 | none =>
  have hg2 : mget (frI fr) n = none := by rw [frI_get, hg]; rfl
  have k2 := (HV.out.1.fresh.later (Below.refl _ _).drew).lack n hn hg2
  go_upto_region 6 with fail
  go_region
  obtain ⟨V2, hV2⟩ : ∃ V2, V2 = V.drew := ⟨_, rfl⟩
  have hbV : Below V.heap.size V V2 := by rw [hV2]; exact (Below.refl _ _).drew
  rw [← hV2]
  have HV2 := Lib.hid (And.intro (HV.out.1.later hbV) (HV.out.2.later hbV))
  have HB2 := Lib.hid (below_then HBV.out hbV)
  have HZ2 := Lib.hid ((hbV.block _ hlz2).trans HZV.out)
  clear hV2 k2 z0 z1 z2 z3 p0 p1 p2 p3 pf hlV hbV
  obtain ⟨p0, -, -, -, pf⟩ := four_at HV2.out.1.blk
  have hlV := HV2.out.1.lt
  go_wp2_with fail
  refine (add_st HV2.out.2 1 0 [] hr (Nat.zero_le _)).mono ?_
  rintro e W ⟨rfl, ⟨cv3, xs3, hs3, hab3⟩, hf3⟩
  have HW := Lib.hid (And.intro (HV2.out.1.tf hf3 (by decide)) (And.intro hs3 (And.intro hf3 hab3)))
  have hz3 : W.heap[u.heap.size]? = some (.cells #[.int .i64 1, .int .i64 n, .string ⟨s.toArray⟩, .slice A len c] 27 (0, 0)) := (hf3.block (t := 27) ⟨_, HZ2.out⟩ (by decide)).trans HZ2.out
  obtain ⟨z0, z1, z2, z3, -⟩ := four_at hz3
  obtain ⟨w', k3, k4, k5, k6⟩ := (HW.out.1.fresh.later (Below.refl _ _).drew).put n hn (cs.length : Nat)
  rw [frI_put fr n cs.length hg] at k4
  clear p0 pf hlV hs3 hf3 hab3
  obtain ⟨p0, p1, p2, p3, pf⟩ := four_at HW.out.1.blk
  have hlV := HW.out.1.lt
  have hlz3 : u.heap.size < W.heap.size := (Array.getElem?_eq_some_iff.1 hz3).1
  have HQ : Hid (P (.returned (.int .i64 (cs.length : Nat))) w') := Lib.hid (by
   have e : putT (.mk 1 n [] []) ⟨cs, fr⟩ = (cs.length, ⟨cs ++ [⟨1, 0, [], [], none⟩], fr ++ [(n, cs.length)]⟩) := by rw [putT, if_pos rfl, hg]
   have hap := HW.out.1.apart
   have hnb : ∀ k, k < W.heap.size → k ≠ fb → w'.heap[k]? = W.heap[k]? := fun k hk hn => k5.block k hk (fun e => hn (Option.some.inj e))
   rw [HP.out]
   unfold PutOut
   rw [e]
   refine ⟨rfl, ⟨(hnb _ HW.out.1.lt hap.2).trans HW.out.1.blk, HW.out.1.vars.keep (hnb _ HW.out.1.vars.lt HW.out.1.ne), k4, HW.out.1.ne⟩, ⟨_, _, HW.out.2.1.keep fun t b _ hb => hnb b hb.lt (fun e => HW.out.1.fresh.map.ne hb e.symm), fun b hb => .inl (HW.out.2.2.2 b hb)⟩, ?_⟩
   have h1 : Fr (fun k => k = fb ∨ TyIn stP u k) u W := fr_tf (((TF.refl stP u).later HB2.out).trans HW.out.2.2.1) fb
   exact (h1.drew.grown k5 fun g e => .inl (.inl (Option.some.inj e).symm)))
  clear hg hg2 k4 k5 k6 hz3
  go_upto_region 9 with fail
  go_region
  go_wp2_with fail
  exact HQ.out
set_option maxHeartbeats 8000000 in
theorem put_leaf (u : World) (x : TV) (hk : x.k ≠ 1) (hk4 : x.k ≠ 4) (hx : x.s.length ≤ maxLen) (hp : PcAt pb sb vb fb u need (frI fr)) (hs : StAt sb room u cv bv xs cs ys) (hr : cs.length + 1 ≤ room) :
    Calls Tryz.prog 263 #[.pointer (some ⟨pb, 0, none⟩), tvV x] u (PutOut pb sb vb fb room u bv xs need cs fr ys (.mk x.k x.n x.s [])) := by
 obtain ⟨P, hP⟩ : ∃ P : Ending → World → Prop, P = PutOut pb sb vb fb room u bv xs need cs fr ys (.mk x.k x.n x.s []) := ⟨_, rfl⟩
 rw [← hP]
 have HP := Lib.hid hP
 obtain ⟨k, n, s, A, len, c⟩ := x
 simp only at hk hk4 hx hP HP
 obtain ⟨U, hU⟩ : ∃ U, U = u.alloc (.cells #[.int .i64 k, .int .i64 n, .string ⟨s.toArray⟩, .slice A len c] 27) := ⟨_, rfl⟩
 have hbU : Below u.heap.size u U := by rw [hU]; exact (Below.refl _ _).alloc (Nat.le_refl _) _
 have hz : U.heap[u.heap.size]? = some (.cells #[.int .i64 k, .int .i64 n, .string ⟨s.toArray⟩, .slice A len c] 27 (0, 0)) := by rw [hU]; exact heap_alloc_new _ _
 obtain ⟨z0, z1, z2, z3, -⟩ := four_at hz
 obtain ⟨p0, -, -, -, pf⟩ := four_at (hp.later hbU).blk
 have hlU := (hp.later hbU).lt
 have hlz : u.heap.size < U.heap.size := (Array.getElem?_eq_some_iff.1 hz).1
 have H := Lib.hid (And.intro (hp.later hbU) (hs.later hbU))
 have HB := Lib.hid hbU
 have HS : Hid (∀ v, TF stP U v → v.cell? ⟨pb, 0, none⟩ = some (.pointer (some ⟨sb, 0, none⟩)) ∧ v.cell? ⟨u.heap.size, 0, none⟩ = some (.int .i64 k) ∧ v.cell? ⟨u.heap.size, 1, none⟩ = some (.int .i64 n) ∧ v.cell? ⟨u.heap.size, 2, none⟩ = some (.string ⟨s.toArray⟩)) := Lib.hid fun v hv =>
  have h1 := hv.block (t := 383) ⟨_, H.out.1.blk⟩ (by decide)
  have h2 := hv.block (t := 27) ⟨_, hz⟩ (by decide)
  ⟨(World.cell?_of_block (a := ⟨pb, 0, none⟩) h1).trans p0, (World.cell?_of_block (a := ⟨u.heap.size, 0, none⟩) h2).trans z0, (World.cell?_of_block (a := ⟨u.heap.size, 1, none⟩) h2).trans z1, (World.cell?_of_block (a := ⟨u.heap.size, 2, none⟩) h2).trans z2⟩
 have b1 : (k == 1) = false := beq_eq_false_iff_ne.2 hk
 have b2 : (k == 4) = false := beq_eq_false_iff_ne.2 hk4
 have HK := Lib.hid (And.intro hk hk4)
 clear hP hp hs hbU hz hk hk4
 unfold tvV
 go_enter Tryz.func263, Tryz.ntmps263
 go_upto_region 1 with fail
 rw [← hU]
 clear hU
 go_upto_region 21 with fail
 clear z0 z1 z2 z3 p0
 go_region_held3 (fun v => v.cell? ⟨pb, 0, none⟩ = some (.pointer (some ⟨sb, 0, none⟩)) ∧ v.cell? ⟨u.heap.size, 0, none⟩ = some (.int .i64 k) ∧ v.cell? ⟨u.heap.size, 1, none⟩ = some (.int .i64 n) ∧ v.cell? ⟨u.heap.size, 2, none⟩ = some (.string ⟨s.toArray⟩))
  (first | (with_reducible exact HS.out _ (TF.refl _ _)) | (with_reducible exact HS.out _ (TF.refl _ _).drew) | (with_reducible exact HS.out _ ((TF.refl _ _).drew.trans hf5)))
  (first | (go_at_call 330; refine (add_st (H.out.2.later (Below.refl _ _).drew) k n s hr hx).mono ?_; rintro e w5 ⟨rfl, ⟨cv5, xs5, hs5, hab5⟩, hf5⟩))
 have HQ : Hid (P (.returned (.int .i64 (cs.length : Nat))) w5) := Lib.hid (by
  have e : putT (.mk k n s []) ⟨cs, fr⟩ = (cs.length, ⟨cs ++ [⟨k, n, s, [], none⟩], fr⟩) := by rw [putT, if_neg HK.out.1, if_neg HK.out.2]
  rw [HP.out]
  unfold PutOut
  rw [e]
  exact ⟨rfl, (H.out.1.later (Below.refl _ _).drew).tf hf5 (by decide), ⟨_, _, hs5, fun b hb => .inl (hab5 b hb)⟩, fr_tf (((TF.refl stP u).later HB.out).drew.trans hf5) fb⟩)
 clear hs5 hf5 hab5
 go_wp2_with fail
 exact HQ.out
end
end Go.Proofs.YtjdnigepnfeboaaGreatDoor
namespace Go.Proofs.YtjdnigepnfeboaaGreatDoor
open Go.RowKit Go.Maps
set_option maxRecDepth 100000
variable [Base]
set_option linter.unusedSectionVars false
def PutC (pb sb vb fb room n : Nat) : Prop := ∀ (t : Tm) (u : World) (x : TV) (need : Nat) (cv bv : Value) (xs : List ScM) (cs : List Sc) (fr : List (Int × Nat)) (ys : List (Nat × Int)), t.size ≤ n → TermS u (TyB u 27) x t → PcAt pb sb vb fb u need (frI fr) → StAt sb room u cv bv xs cs ys → FrLt ⟨cs, fr⟩ → t.may = true → (∀ n ∈ vrT t, ok6 n) → cs.length + t.size ≤ room →
 Calls Tryz.prog 263 #[.pointer (some ⟨pb, 0, none⟩), tvV x] u (PutOut pb sb vb fb room u bv xs need cs fr ys t)
structure PlAt (pb sb vb fb room : Nat) (u : World) (bv : Value) (xs : List ScM) (need : Nat) (ys : List (Nat × Int)) (ab n : Nat) (p1 : PS) (args : List Tm) (wr : World) (q : Nat) : Prop where
 pc : PcAt pb sb vb fb wr need (frI (putL (args.take q) p1).2.fr)
 st : ∃ cv' xs', StAt sb room wr cv' bv xs' (putL (args.take q) p1).2.cs ys ∧ ∀ b, ABs xs' b → b ≠ ab ∧ (ABs xs b ∨ u.heap.size ≤ b)
 row : Row wr u.heap.size 3 1 encN (.slice (some ⟨ab, 0, none⟩) n n) ((putL (args.take q) p1).1 ++ List.replicate (n - q) 0)
 fr : Fr (fun k => k = fb ∨ TyIn stP u k) u wr
 new : u.heap.size ≤ ab
omit [Base] in
theorem abs_set {xs : List ScM} {i b : Nat} {x : ScM} {A : Option Addr} {m c : Nat} (h : ABs (xs.set i { x with A := A, m := m, c := c }) b) : ABs xs b ∨ ∃ off, A = some ⟨b, off, none⟩ := by
 obtain ⟨y, hy, off, e⟩ := h
 rcases List.mem_or_eq_of_mem_set hy with h | h
 ·exact .inl ⟨y, h, off, e⟩
 ·rw [h] at e
  exact .inr ⟨off, e⟩
omit [Base] in
theorem sizes_split : ∀ (q : Nat) (l : List Tm), Tm.sizes (l.take q) + Tm.sizes (l.drop q) = Tm.sizes l
 | 0, l => by simp [Tm.sizes]
 | q + 1, [] => by simp [Tm.sizes]
 | q + 1, t :: r => by
  have := sizes_split q r
  simp only [List.take_succ_cons, List.drop_succ_cons, Tm.sizes]
  omega
theorem fr_after {tys : List TypeId} {fb : Nat} {u v w : World} (h : Fr (fun k => k = fb ∨ TyIn tys u k) u v) (h' : Fr (fun k => k = fb ∨ TyIn tys v k) v w) : Fr (fun k => k = fb ∨ TyIn tys u k) u w :=
 ⟨h'.os.trans h.os, h'.tape.trans h.tape, h'.output.trans h.output, Nat.le_trans h.size h'.size, fun k hk hn => by
  have e1 := h.block k hk hn
  refine (h'.block k (Nat.lt_of_lt_of_le hk h.size) fun e => hn ?_).trans e1
  rcases e with e | ⟨h0, t, ht, cs, e⟩
  ·exact .inl e
  ·exact .inr ⟨h0, t, ht, cs, e1 ▸ e⟩⟩
omit [Base] in
theorem PcAt.setN {pb sb vb fb : Nat} {u : World} {need : Nat} {l : List (Int × Int)} (h : PcAt pb sb vb fb u need l) {b i : Nat} {t : TypeId} (hb : TyB u t b) (ht : 383 ≠ t) (v : Value) : PcAt pb sb vb fb (u.setCell ⟨b, i, none⟩ v) need l :=
 ⟨(Below.heap_setCell _ _ _ _ (TyB.ne (t := 383) ⟨_, h.blk⟩ hb ht)).trans h.blk, h.vars.keep (Below.heap_setCell _ _ _ _ (h.vars.map.ne hb)), h.fresh.keep (Below.heap_setCell _ _ _ _ (h.fresh.map.ne hb)), h.ne⟩
theorem StAt.abs_ty {sb room : Nat} {u : World} {cv bv : Value} {xs : List ScM} {cs : List Sc} {ys : List (Nat × Int)} (h : StAt sb room u cv bv xs cs ys) {b : Nat} (hb : ABs xs b) : TyB u 3 b := by
 obtain ⟨x, hx, off, e⟩ := hb
 obtain ⟨i, hi⟩ := List.mem_iff_getElem?.1 hx
 have hl := (List.getElem?_eq_some_iff.1 hi).1
 obtain ⟨c, hc⟩ : ∃ c, cs[i]? = some c := ⟨_, List.getElem?_eq_getElem (by rw [← h.len]; exact hl)⟩
 have ha := (h.ok i x c hi hc).args
 cases hl : c.args with
 | nil =>
  have := ha.nil hl
  rw [e] at this
  cases this
 | cons a r =>
  obtain ⟨b', off', e1, e2, -⟩ := ha.at' 0 a (by rw [hl]; rfl)
  rw [e] at e1
  injection e1 with e1
  injection e1 with e1
  rw [e1]
  exact e2
section
variable {pb sb vb fb room : Nat} {u u' : World} {need : Nat} {cv bv : Value} {xs : List ScM} {cs : List Sc} {fr : List (Int × Nat)} {ys : List (Nat × Int)}
set_option maxHeartbeats 16000000 in
theorem put_comp (m : Nat) (hC : PutC pb sb vb fb room m) (u : World) (x : TV) (t : Tm) (hsz : t.size ≤ m + 1) (hk : x.k = 4) (hx : TermS u (TyB u 27) x t) (hp : PcAt pb sb vb fb u need (frI fr)) (hs : StAt sb room u cv bv xs cs ys) (hfl : FrLt ⟨cs, fr⟩) (hmay : t.may = true) (hv : ∀ n ∈ vrT t, ok6 n) (hroom : cs.length + t.size ≤ room) :
    Calls Tryz.prog 263 #[.pointer (some ⟨pb, 0, none⟩), tvV x] u (PutOut pb sb vb fb room u bv xs need cs fr ys t) := by
 obtain ⟨P, hP⟩ : ∃ P : Ending → World → Prop, P = PutOut pb sb vb fb room u bv xs need cs fr ys t := ⟨_, rfl⟩
 rw [← hP]
 have HP := Lib.hid hP
 cases hx with
 | mk _ args xa h1 h2 h3 hc ht =>
 obtain ⟨k, n, s, A, len, c⟩ := x
 simp only at hk h1 h2 h3 hc ht HP hsz hmay hv hroom hP
 subst hk
 obtain ⟨p1, hp1⟩ : ∃ p1 : PS, p1 = ⟨cs ++ [⟨4, 0, s, [], none⟩], fr⟩ := ⟨_, rfl⟩
 have HA : Hid ((∀ (i : Nat) a, args[i]? = some a → a.may = true ∧ (∀ n ∈ vrT a, ok6 n)) ∧ Tm.sizes args ≤ m ∧ cs.length + 1 + Tm.sizes args ≤ room ∧ args.length = len ∧ len ≤ 255 ∧ 0 < len) := Lib.hid (by
  have hsz : 1 + Tm.sizes args ≤ m + 1 := by simpa only [Tm.size] using hsz
  have hnd : cs.length + (1 + Tm.sizes args) ≤ room := by simpa only [Tm.size] using hroom
  refine ⟨fun i a ha => ⟨may_args hmay a (List.mem_of_getElem? ha), fun n hn => hv n ?_⟩, by omega, by omega, h2, ?_, ?_⟩
  ·rw [vrT]
   exact List.mem_append_right _ (vrL_mem (List.mem_of_getElem? ha) hn)
  ·rw [← h2]
   exact may_len hmay
  ·rw [← h2]
   exact may_pos hmay)
 have hn0 := (may_leaf hmay).2.2 rfl
 subst hn0
 have HXS := Lib.hid (And.intro h1 (And.intro hc ht))
 have HM := Lib.hid hC
 have HT0 : Hid (∀ b, TyB u 27 b → ¬ (b = fb ∨ TyIn stP u b)) := Lib.hid fun b hb e => by
  rcases e with e | ⟨-, t', e1, e2⟩
  ·exact hp.fresh.map.ne hb e.symm
  ·have := hb.same e2
   subst this
   exact absurd e1 (by decide)
 obtain ⟨U, hU⟩ : ∃ U, U = u.alloc (.cells #[.int .i64 4, .int .i64 0, .string ⟨s.toArray⟩, .slice A len c] 27) := ⟨_, rfl⟩
 have hbU : Below u.heap.size u U := by rw [hU]; exact (Below.refl _ _).alloc (Nat.le_refl _) _
 have hz : U.heap[u.heap.size]? = some (.cells #[.int .i64 4, .int .i64 0, .string ⟨s.toArray⟩, .slice A len c] 27 (0, 0)) := by rw [hU]; exact heap_alloc_new _ _
 obtain ⟨z0, z1, z2, z3, -⟩ := four_at hz
 obtain ⟨q0, -, -, -, pf⟩ := four_at (hp.later hbU).blk
 have hlU := (hp.later hbU).lt
 have hlz : u.heap.size < U.heap.size := (Array.getElem?_eq_some_iff.1 hz).1
 have H := Lib.hid (And.intro (hp.later hbU) (hs.later hbU))
 have HB := Lib.hid hbU
 have HZ := Lib.hid hz
 have HS : Hid (∀ v, TF stP U v → v.cell? ⟨pb, 0, none⟩ = some (.pointer (some ⟨sb, 0, none⟩)) ∧ v.cell? ⟨u.heap.size, 2, none⟩ = some (.string ⟨s.toArray⟩)) := Lib.hid fun v hv =>
  have h1 := hv.block (t := 383) ⟨_, H.out.1.blk⟩ (by decide)
  have h2 := hv.block (t := 27) ⟨_, hz⟩ (by decide)
  ⟨(World.cell?_of_block (a := ⟨pb, 0, none⟩) h1).trans q0, (World.cell?_of_block (a := ⟨u.heap.size, 2, none⟩) h2).trans z2⟩
 have HFL := Lib.hid hfl
 have HROOM : Hid (cs.length + 1 ≤ room ∧ s.length ≤ maxLen) := Lib.hid ⟨by have := HA.out.2.2.1; omega, h3⟩
 have hlen255 := HA.out.2.2.2.2.1
 clear hP h1 h2 hc ht hp hs hmay hv hsz hroom hC hbU hz hfl h3
 unfold tvV
 go_enter Tryz.func263, Tryz.ntmps263
 go_upto_region 1 with fail
 rw [← hU]
 clear hU
 go_upto_region 12 with fail
 clear z0 z1 z2 z3 q0
 go_region_held3 (fun v => v.cell? ⟨pb, 0, none⟩ = some (.pointer (some ⟨sb, 0, none⟩)) ∧ v.cell? ⟨u.heap.size, 2, none⟩ = some (.string ⟨s.toArray⟩))
  (first | (with_reducible exact HS.out _ (TF.refl _ _)) | (with_reducible exact HS.out _ (TF.refl _ _).drew) | (with_reducible exact HS.out _ ((TF.refl _ _).drew.trans hf5)))
  (first | (go_at_call 330; refine (add_st (H.out.2.later (Below.refl _ _).drew) 4 0 s HROOM.out.1 HROOM.out.2).mono ?_; rintro e w5 ⟨rfl, ⟨cv5, xs5, hs5, hab5⟩, hf5⟩))
 have hfU : TF stP U w5 := (TF.refl _ _).drew.trans hf5
 have H5 := Lib.hid (And.intro (H.out.1.tf hfU (by decide)) (And.intro hs5 (And.intro hab5 (((TF.refl stP u).later HB.out).trans hfU))))
 have hz5 : w5.heap[u.heap.size]? = some (.cells #[.int .i64 4, .int .i64 0, .string ⟨s.toArray⟩, .slice A len c] 27 (0, 0)) := (hfU.block (t := 27) ⟨_, HZ.out⟩ (by decide)).trans HZ.out
 obtain ⟨z0, z1, z2, z3, -⟩ := four_at hz5
 have hlz5 : u.heap.size < w5.heap.size := (Array.getElem?_eq_some_iff.1 hz5).1
 clear hs5 hab5 hf5 hfU HZ H HS hlU hlz pf
 have hmk := run_ints w5 len (by omega)
 obtain ⟨W, hW⟩ : ∃ W, W = w5.alloc (.cells ((List.replicate len 0).flatMap encN).toArray 3) := ⟨_, rfl⟩
 have hbW : Below w5.heap.size w5 W := by rw [hW]; exact (Below.refl _ _).alloc (Nat.le_refl _) _
 have HI0 : Hid (PlAt pb sb vb fb room u bv xs need ys w5.heap.size len p1 args W 0) := Lib.hid (by
  refine ⟨?_, ⟨cv5, xs5, ?_, fun b hb => ?_⟩, ?_, (fr_tf H5.out.2.2.2 fb).step hbW, H5.out.2.2.2.size⟩
  ·rw [List.take_zero, putL, hp1]
   exact H5.out.1.later hbW
  ·rw [List.take_zero, putL, hp1]
   exact H5.out.2.1.later hbW
  ·refine ⟨fun e => ?_, .inl (H5.out.2.2.1 b hb)⟩
   have := (H5.out.2.1.abs_ty hb).lt
   omega
  ·rw [List.take_zero, putL, List.nil_append, Nat.sub_zero, hW]
   exact ints_row w5 _ len H5.out.2.2.2.size (by omega))
 have HWW := Lib.hid (And.intro hbW hW)
 have hz6 := (hbW.block _ hlz5).trans hz5
 obtain ⟨t0, t1, t2, t3, -⟩ := four_at hz6
 have hlz6 : u.heap.size < W.heap.size := Nat.lt_of_lt_of_le hlz5 hbW.size
 obtain ⟨ab, hab⟩ : ∃ ab, ab = w5.heap.size := ⟨_, rfl⟩
 rw [← hW, ← hab] at hmk
 rw [← hab] at HI0
 clear hbW hz5 hz6
 go_upto_region 13 with fail
 clear hW hab
 go_wp2_with fail
 clear hmk z0 z1 z2 z3 t0 t1 t2 t3 hlz5 hlz6
 go_loopw [72] (fun i wr => ∃ (q : Nat), i = .int .i64 (q : Nat) ∧ q ≤ len ∧ Hid (PlAt pb sb vb fb room u bv xs need ys ab len p1 args wr q)) (fun i _ => len - (intOf i).toNat)
 case atStart => exact ⟨0, rfl, Nat.zero_le _, HI0⟩
 case round =>
  obtain ⟨q, rfl, hq, HI⟩ := hrel
  clear HI0
  by_cases hlt : q < len
  ·obtain ⟨a, ha⟩ : ∃ a, args[q]? = some a := ⟨_, List.getElem?_eq_getElem (by rw [HA.out.2.2.2.1]; exact hlt)⟩
   obtain ⟨y, hy⟩ : ∃ y, xa[q]? = some y := ⟨_, List.getElem?_eq_getElem (by rw [HXS.out.1]; exact hlt)⟩
   obtain ⟨b, off, rfl, hb, hcc⟩ := HXS.out.2.1 q y hy
   have hkT : ∀ b, TyB u 27 b → wr.heap[b]? = u.heap[b]? := fun b hb => HI.out.fr.block b hb.lt (HT0.out b hb)
   have hcell : ∀ (j : Nat) v, (encTV y)[j]? = some v → wr.cell? ⟨b, off + q * 4 + j, none⟩ = some v := fun j v hv => (World.cell?_of_block (a := ⟨b, off + q * 4 + j, none⟩) (hkT b hb)).trans (hcc j v hv)
   have y0 := hcell 0 _ rfl
   have y1 := hcell 1 _ rfl
   have y2 := hcell 2 _ rfl
   have y3 := hcell 3 _ rfl
   rw [Nat.add_zero] at y0
   have hbl : b < wr.heap.size := Nat.lt_of_lt_of_le hb.lt HI.out.fr.size
   have HT := Lib.hid ((HXS.out.2.2 q y a hy ha).keep (w' := wr) (S' := TyB wr 27) (fun b hb => hb.keep (hkT b hb)) hkT)
   obtain ⟨V, hV⟩ : ∃ V, V = wr.alloc (.cells #[.int .i64 y.k, .int .i64 y.n, .string ⟨y.s.toArray⟩, .slice y.A y.len y.cap] 27) := ⟨_, rfl⟩
   have hbV : Below wr.heap.size wr V := by rw [hV]; exact (Below.refl _ _).alloc (Nat.le_refl _) _
   have hzV : V.heap[wr.heap.size]? = some (.cells #[.int .i64 y.k, .int .i64 y.n, .string ⟨y.s.toArray⟩, .slice y.A y.len y.cap] 27 (0, 0)) := by rw [hV]; exact heap_alloc_new _ _
   obtain ⟨v0, v1, v2, v3, -⟩ := four_at hzV
   have hlt1 : (q : Int) < (len : Int) := by omega
   have hge : (0 : Int) ≤ (q : Int) := by omega
   have hwq : IntKind.i64.wrap ((q : Int) + 1) = (q : Int) + 1 := IntWalk.i64_in _ (by omega)
   have HTV : Hid (TermS V (TyB V 27) y a) := Lib.hid (HT.out.keep (fun b hb => hb.keep (hbV.block b hb.lt)) fun b hb => hbV.block b hb.lt)
   have HBV := Lib.hid hbV
   have HAQ := Lib.hid ha
   obtain ⟨pq, hpq⟩ : ∃ pq, pq = putL (args.take q) p1 := ⟨_, rfl⟩
   have HSN : Hid (putL (args.take (q + 1)) p1 = (pq.1 ++ [(putT a pq.2).1], (putT a pq.2).2)) := Lib.hid (by
    rw [List.take_add_one, ha, hpq]
    exact putL_snoc _ _ _)
   have HPQ : Hid (FrLt pq.2 ∧ pq.2.cs.length + a.size ≤ room ∧ pq.1.length = q ∧ a.size ≤ m) := Lib.hid (by
    obtain ⟨g1, g2, g3⟩ := putL_mem (args.take q) p1 (by
     rw [hp1]
     intro x hx
     have h9 : x.2 < cs.length := HFL.out x hx
     show x.2 < (cs ++ [_]).length
     rw [List.length_append]
     omega)
    have h1 := g1.le
    have h2 : Tm.sizes (args.take q) + (a.size + Tm.sizes (args.drop (q + 1))) = Tm.sizes args := by
     obtain ⟨hl, he⟩ := List.getElem?_eq_some_iff.1 ha
     have := sizes_split q args
     rw [List.drop_eq_getElem_cons hl, he, Tm.sizes] at this
     exact this
    have h3 := HA.out.2.2.1
    have h4 := HA.out.2.1
    have h5 : p1.cs.length = cs.length + 1 := by rw [hp1]; simp
    rw [← hpq] at h1 g3
    refine ⟨by rw [hpq]; exact g1.fr, by omega, by rw [g3, List.length_take, HA.out.2.2.2.1]; omega, by omega⟩)
   have HI2 : Hid (PcAt pb sb vb fb wr need (frI pq.2.fr) ∧ (∃ cv' xs', StAt sb room wr cv' bv xs' pq.2.cs ys ∧ ∀ b, ABs xs' b → b ≠ ab ∧ (ABs xs b ∨ u.heap.size ≤ b)) ∧ Row wr u.heap.size 3 1 encN (.slice (some ⟨ab, 0, none⟩) len len) (pq.1 ++ List.replicate (len - q) 0)) := Lib.hid (by
    rw [hpq]
    exact ⟨HI.out.pc, HI.out.st, HI.out.row⟩)
   have HFR := Lib.hid (And.intro HI.out.fr HI.out.new)
   clear hcc hkT hcell hy ha hb hzV hbV hpq HI
   go_upto_region 17 with fail
   rw [← hV]
   clear hV
   obtain ⟨cv2, xs2, HS2⟩ : ∃ cv2 xs2, Hid (StAt sb room V cv2 bv xs2 pq.2.cs ys ∧ ∀ b, ABs xs2 b → b ≠ ab ∧ (ABs xs b ∨ u.heap.size ≤ b)) := by
    obtain ⟨cv2, xs2, g1, g2⟩ := HI2.out.2.1
    exact ⟨cv2, xs2, Lib.hid ⟨g1.later HBV.out, g2⟩⟩
   have HCL : Hid (Calls Tryz.prog 263 #[.pointer (some ⟨pb, 0, none⟩), tvV y] V (PutOut pb sb vb fb room V bv xs2 need pq.2.cs pq.2.fr ys a)) := Lib.hid (HM.out a V y need cv2 bv xs2 pq.2.cs pq.2.fr ys HPQ.out.2.2.2 HTV.out (HI2.out.1.later HBV.out) HS2.out.1 HPQ.out.1 (HA.out.1 q a HAQ.out).1 (HA.out.1 q a HAQ.out).2 HPQ.out.2.1)
   go_wp2_with fail
   refine HCL.out.mono ?_
   rintro e W5 ⟨rfl, hpc5, ⟨cv5, xs5, hs5, hab5⟩, hf5⟩
   have hrV := HI2.out.2.2.later HBV.out
   have habV : TyB V 3 ab := hrV.ty rfl
   have habn : ¬ (ab = fb ∨ TyIn stP V ab) := fun e => by
    rcases e with e | ⟨-, t', e1, e2⟩
    ·exact (HI2.out.1.later HBV.out).fresh.map.ne habV e.symm
    ·have := habV.same e2
     subst this
     exact absurd e1 (by decide)
   have hk5 := hf5.block ab habV.lt habn
   have hr5 : Row W5 u.heap.size 3 1 encN (.slice (some ⟨ab, 0, none⟩) len len) (pq.1 ++ List.replicate (len - q) 0) := hrV.keep fun k hk => by
    have e : ab = k := Option.some.inj hk
    rw [← e]
    exact hk5
   have hq0 : (pq.1 ++ List.replicate (len - q) 0)[q]? = some 0 := by
    rw [List.getElem?_append_right (by rw [HPQ.out.2.2.1]; exact Nat.le_refl _), HPQ.out.2.2.1, Nat.sub_self, List.getElem?_replicate, if_pos (by omega)]
   obtain ⟨g9, cap9, e9, -, -, -, hc9⟩ := hr5.cells encN_len (fun e => by rw [e] at hq0; cases hq0)
   injection e9 with e9 q1 q2
   clear q1 q2
   injection e9 with e9
   injection e9 with e9
   subst e9
   obtain ⟨w0, wf0⟩ := hc9 q 0 hq0 0 _ rfl
   rw [Nat.mul_one, Nat.add_zero] at w0 wf0
   have hlab : ab < W5.heap.size := Nat.lt_of_lt_of_le habV.lt hf5.size
   obtain ⟨r, hr⟩ : ∃ r, r = (putT a pq.2).1 := ⟨_, rfl⟩
   have HNX : Hid (PlAt pb sb vb fb room u bv xs need ys ab len p1 args (W5.setCell ⟨ab, q, none⟩ (.int .i64 (r : Nat))) (q + 1)) := Lib.hid (by
    have hty5 : TyB W5 3 ab := habV.keep hk5
    refine ⟨?_, ⟨cv5, xs5, ?_, fun b hb => ?_⟩, ?_, ?_, HFR.out.2⟩
    ·rw [HSN.out]
     exact hpc5.setN hty5 (by decide) _
    ·rw [HSN.out]
     refine hs5.keepA (fun t b ht hb => Below.heap_setCell _ _ _ _ (hb.ne hty5 fun e => by subst e; exact absurd ht (by decide))) fun b hb _ => Below.heap_setCell _ _ _ _ ?_
     rcases hab5 b hb with e | e
     ·exact (HS2.out.2 b e).1
     ·have := habV.lt
      simp only
      omega
    ·rcases hab5 b hb with e | e
     ·exact HS2.out.2 b e
     ·have h1 := habV.lt
      have h2 := HFR.out.1.size
      have h3 := HBV.out.size
      exact ⟨by omega, .inr (by omega)⟩
    ·have h1 := Row.put encN_len hr5 (i := q) (j := 0) (x := 0) (y := r) (u := .int .i64 (r : Nat)) hq0 (by omega) rfl
     rw [Nat.mul_one, Nat.add_zero] at h1
     rw [HSN.out]
     have h2 : (pq.1 ++ List.replicate (len - q) 0).set q r = pq.1 ++ [(putT a pq.2).1] ++ List.replicate (len - (q + 1)) 0 := by
      rw [List.set_append_right _ _ (by rw [HPQ.out.2.2.1]; exact Nat.le_refl _), HPQ.out.2.2.1, Nat.sub_self, show len - q = (len - (q + 1)) + 1 by omega, List.replicate_succ, List.set_cons_zero, hr, List.append_assoc]
      rfl
     rw [h2] at h1
     exact h1
    ·exact (fr_after (HFR.out.1.step HBV.out) hf5).setCell (p := ⟨ab, q, none⟩) (.inr HFR.out.2) _)
   rw [← hr]
   clear hpc5 hs5 hab5 hf5 hrV habV habn hk5 hr5 hq0 hc9 hr y0 y1 y2 y3 v0 v1 v2 v3 hbl
   go_wp2_with fail
   go_roundw
   case rel => exact ⟨q + 1, rfl, by omega, HNX⟩
   case measure =>
    simp only [intOf]
    omega
  ·obtain rfl : q = len := by omega
   have hng : ¬ (q : Int) < (q : Int) := by omega
   obtain ⟨pq, hpq⟩ : ∃ pq, pq = putL args p1 := ⟨_, rfl⟩
   have htk : args.take q = args := by rw [List.take_of_length_le (by rw [HA.out.2.2.2.1]; exact Nat.le_refl _)]
   obtain ⟨g1, g2, g3⟩ := putL_mem args p1 (by
    rw [hp1]
    intro x hx
    have h9 : x.2 < cs.length := HFL.out x hx
    show x.2 < (cs ++ [_]).length
    rw [List.length_append]
    omega)
   rw [← hpq] at g1 g2 g3
   obtain ⟨hpc, ⟨cv6, xs6, hs6, hab6⟩, hrow, hfr, hnew⟩ := HI.out
   rw [htk, ← hpq] at hpc hs6 hrow
   rw [Nat.sub_self, List.replicate_zero, List.append_nil] at hrow
   have hl1 : p1.cs.length = cs.length + 1 := by rw [hp1]; simp
   have hat : pq.2.cs[cs.length]? = some ⟨4, 0, s, [], none⟩ := by
    rw [g1.old cs.length (by omega), hp1]
    simp
   obtain ⟨g, cap, x6, e6, -, hgl, hx6, ho6, gf, -, -, -, d3, -, -⟩ := hs6.at hat
   subst e6
   obtain ⟨c0, c1, -, cf⟩ := hs6.cells
   obtain ⟨r0, -, -, -, -⟩ := four_at hpc.blk
   have hgt := hs6.row.ty (g := g) rfl
   have hgge := hs6.rowge (g := g) rfl
   have hne : pq.1 ≠ [] := fun e => by
    have h1 := HA.out.2.2.2.2.2
    have h2 := HA.out.2.2.2.1
    rw [e, List.length_nil] at g3
    omega
   have hst := hs6.args' (cp := q) (m := q) hx6 hat (by rw [g3, HA.out.2.2.2.1]) (ArgsAt.row hrow hne) g2 (by rw [g3, HA.out.2.2.2.1]; exact hlen255)
   have HQ : Hid (P (.returned (.int .i64 (cs.length : Nat))) (wr.setCell ⟨g, cs.length * 6 + 3, none⟩ (.slice (some ⟨ab, 0, none⟩) q q))) := Lib.hid (by
    have e : putT (.mk 4 0 s args) ⟨cs, fr⟩ = (cs.length, ⟨pq.2.cs.set cs.length ⟨4, 0, s, pq.1, none⟩, pq.2.fr⟩) := by
     rw [putT, if_neg (by decide), if_pos rfl, hpq, hp1]
    rw [HP.out]
    unfold PutOut
    rw [e]
    refine ⟨rfl, hpc.setN hgt (by decide) _, ⟨_, _, hst, fun b hb => ?_⟩, hfr.setCell (p := ⟨g, cs.length * 6 + 3, none⟩) ?_ _⟩
    ·rcases abs_set hb with e | ⟨off, e⟩
     ·exact (hab6 b e).2
     ·injection e with e
      injection e with e
      exact .inr (by omega)
    ·by_cases hgu : u.heap.size ≤ g
     ·exact .inr hgu
     ·by_cases hgfb : g = fb
      ·exact .inl (.inl hgfb)
      ·refine .inl (Classical.byContradiction fun hn => ?_)
       have h1 := hfr.block g (by omega) hn
       obtain ⟨cs9, h2⟩ := hgt
       exact hn (.inr ⟨hgge, 366, by decide, cs9, h1 ▸ h2⟩))
   have hc0 : (0 : Int) ≤ (cs.length : Int) := by omega
   have hc1 : (cs.length : Int) < (pq.2.cs.length : Int) := by have := g1.ge; omega
   have hlp := hpc.lt
   have hls := hs6.lt
   clear hlt hpq htk g1 g2 g3 hpc hs6 hab6 hrow hfr hnew hl1 hat hx6 ho6 hgt hgge hne hst
   go_wp2_with fail
   exact HQ.out
theorem put_all (pb sb vb fb room : Nat) : ∀ n, PutC pb sb vb fb room n
 | 0 => fun t u x need cv bv xs cs fr ys hs _ _ _ _ _ _ _ => by
  obtain ⟨k, n, s, l⟩ := t
  simp only [Tm.size] at hs
  omega
 | n + 1 => fun t u x need cv bv xs cs fr ys hsz hx hp hs hf hm hv hr => by
  by_cases hk4 : x.k = 4
  ·exact put_comp n (put_all pb sb vb fb room n) u x t hsz hk4 hx hp hs hf hm hv hr
  ·cases hx with
   | mk _ args xa h1 h2 h3 hc ht =>
    obtain ⟨m1, m2, -⟩ := may_leaf hm
    obtain rfl := m2 hk4
    have hr1 : cs.length + 1 ≤ room := by simpa [Tm.size, Tm.sizes] using hr
    by_cases hk : x.k = 1
    ·obtain ⟨hs0, -⟩ := m1 hk
     rw [hk, hs0]
     refine put_var u x hk (hv _ ?_) hp hs hr1
     rw [vrT, if_pos hk]
     exact List.mem_append_left _ (List.mem_singleton.2 rfl)
    ·exact put_leaf u x hk hk4 h3 hp hs hr1
end
end Go.Proofs.YtjdnigepnfeboaaGreatDoor
