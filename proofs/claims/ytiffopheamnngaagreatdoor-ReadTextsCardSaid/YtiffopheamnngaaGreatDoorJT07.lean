import Derived.Test.YtiffopheamnngaaGreatDoorJT06
namespace Go.Proofs.YtiffopheamnngaaGreatDoor
open Go.RowKit Go.Maps
set_option maxRecDepth 100000
def refSort (t : Int) : Int := if t ≤ 3 then 2 else if t ≤ 5 then 1 else 3
theorem refSort_kSort (t : Int) (h : 1 ≤ t) : refSort t = kSort t := by unfold refSort kSort; split <;> (try split) <;> (try split) <;> omega
set_option maxHeartbeats 400000 in
theorem refSort_any (w : World) (t : Int) : Calls Tryz.prog 41 #[.int .i64 t] w fun e w' => e = .returned (.int .i64 (refSort t)) ∧ w = w' := by
 unfold refSort
 by_cases h1 : t ≤ 3
 ·rw [if_pos h1]
  go_enter Tryz.func41, Tryz.ntmps41
  go_wp2
  go_ret
  exact ⟨rfl, rfl⟩
 ·rw [if_neg h1]
  by_cases h2 : t ≤ 5
  ·rw [if_pos h2]
   go_enter Tryz.func41, Tryz.ntmps41
   go_wp2
   go_ret
   exact ⟨rfl, rfl⟩
  ·rw [if_neg h2]
   go_enter Tryz.func41, Tryz.ntmps41
   go_wp2
   go_ret
   exact ⟨rfl, rfl⟩
def defOf (x : OpK × OpV) : DefT := (x.2.1, x.2.2, x.1.2)
def rHit (n : List UInt8) (s : Int) (d : DefT) : Bool := decide (d.2.2 = n ∧ refSort d.2.1 = s)
def rfind (L : List DefT) (n : List UInt8) (s : Int) : DefT := (L.find? (rHit n s)).getD (0, 0, [])
def rerr (L : List DefT) (p t : Int) (n : List UInt8) : Int :=
 if p < 0 ∨ 1200 < p ∨ t < 1 ∨ 7 < t ∨ 1000 < n.length then 2
 else if n = [44] ∨ n = [124] ∨ n = [91, 93] ∨ n = [123, 125] then 15
 else if 0 < p ∧ ((refSort t = 2 ∧ 0 < (rfind L n 3).1) ∨ (refSort t = 3 ∧ 0 < (rfind L n 2).1)) then 15
 else if 0 < p ∧ 256 ≤ L.length ∧ (rfind L n (refSort t)).1 = 0 then 9 else 0
def rout (L : List DefT) (t : Int) (n : List UInt8) : List DefT := L.filter fun d => !rHit n (refSort t) d
def rop (L : List DefT) (p t : Int) (n : List UInt8) : List DefT :=
 if rerr L p t n ≠ 0 then L else if 0 < p then rout L t n ++ [(p, t, n)] else rout L t n
structure Agree (es : List (OpK × OpV)) (L : List DefT) : Prop where
 perm : L.Perm (es.map defOf)
 good : ∀ x ∈ es, goodOp x
 nodup : (es.map (·.1)).Nodup
theorem rHit_of {x : OpK × OpV} (hx : goodOp x) (n : List UInt8) (s : Int) : rHit n s (defOf x) = decide (x.1 = (s, n)) := by
 obtain ⟨g1, _, _, _, g5, _⟩ := hx
 unfold rHit defOf
 simp only
 rw [refSort_kSort _ g5, ← g1]
 rcases x with ⟨⟨a, b⟩, c, d⟩
 simp only [Prod.mk.injEq]
 congr 1
 exact propext ⟨fun h => ⟨h.2, h.1⟩, fun h => ⟨h.2, h.1⟩⟩
theorem Agree.find {es : List (OpK × OpV)} {L : List DefT} (h : Agree es L) (n : List UInt8) (s : Int) :
    rfind L n s = match mget es (s, n) with | some (p, t) => (p, t, n) | none => (0, 0, []) := by
 unfold rfind
 cases hf : L.find? (rHit n s) with
 | none =>
  rw [List.find?_eq_none] at hf
  have : mget es (s, n) = none := mget_none fun x hx e => by
   have h1 := hf (defOf x) (h.perm.mem_iff.2 (List.mem_map.2 ⟨x, hx, rfl⟩))
   rw [rHit_of (h.good x hx)] at h1
   exact h1 (by simpa using e)
  rw [this]
  rfl
 | some d =>
  have h1 := List.find?_some hf
  obtain ⟨x, hx, rfl⟩ := List.mem_map.1 (h.perm.mem_iff.1 (List.mem_of_find?_eq_some hf))
  rw [rHit_of (h.good x hx)] at h1
  have e : x.1 = (s, n) := by simpa using h1
  have : mget es (s, n) = some x.2 := mget_some_of h.nodup (by rw [← e]; exact hx)
  rw [this]
  simp [defOf, e]
theorem Agree.pos {es : List (OpK × OpV)} {L : List DefT} (h : Agree es L) (n : List UInt8) (s : Int) : (0 < (rfind L n s).1 ↔ (mget es (s, n)).isSome = true) ∧ ((rfind L n s).1 = 0 ↔ (mget es (s, n)).isSome = false) := by
 rw [h.find]
 cases hg : mget es (s, n) with
 | none => simp
 | some v =>
  obtain ⟨p, t⟩ := v
  obtain ⟨_, _, g3, _⟩ := h.good _ (mget_mem hg)
  simp only at g3
  simp only [Option.isSome_some, Bool.true_eq_false, iff_false, iff_true]
  omega
theorem Agree.len {es : List (OpK × OpV)} {L : List DefT} (h : Agree es L) : L.length = es.length := by simpa using h.perm.length_eq
theorem Agree.err {es : List (OpK × OpV)} {L : List DefT} (h : Agree es L) (p t : Int) (n : List UInt8) : rerr L p t n = opErr es p t n := by
 unfold rerr opErr
 split
 ·rfl
 ·rename_i h1
  simp only [not_or] at h1
  split
  ·rfl
  ·rw [refSort_kSort t (by omega), h.len]
   simp only [(h.pos n 3).1, (h.pos n 2).1, (h.pos n (kSort t)).2]
   by_cases hp : p = 0
   ·subst hp
    simp
   ·have hp' : 0 < p := by omega
    simp only [hp', hp, true_and, if_false]
theorem mput_perm {κ ν : Type} [DecidableEq κ] (l : List (κ × ν)) (k : κ) (v : ν) (hd : (l.map (·.1)).Nodup) : (mput l k v).Perm (mdel l k ++ [(k, v)]) := by
 cases hg : mget l k with
 | none =>
  have h1 := mget_eq_none hg
  have h2 : mdel l k = l := List.filter_eq_self.2 (by intro z hz; simpa using h1 z hz)
  unfold mput
  rw [hg, h2]
  simp
 | some v0 =>
  unfold mput
  rw [hg, Option.isSome_some, if_pos rfl]
  have hm := mget_mem hg
  clear hg
  induction l with
  | nil => cases hm
  | cons y r ih =>
   simp only [List.map_cons, List.nodup_cons] at hd
   by_cases e : y.1 = k
   ·have h1 : ∀ z ∈ r, z.1 ≠ k := fun z hz e2 => hd.1 (by rw [e, ← e2]; exact List.mem_map.2 ⟨z, hz, rfl⟩)
    have h2 : r.map (fun x => if x.1 = k then (k, v) else x) = r := by
     conv => rhs; rw [← List.map_id r]
     refine List.map_congr_left fun z hz => ?_
     rw [if_neg (h1 z hz)]
     rfl
    have h3 : mdel (y :: r) k = r := by
     unfold mdel
     rw [List.filter_cons_of_neg (by simpa using e), List.filter_eq_self.2 (by intro z hz; simpa using h1 z hz)]
    rw [List.map_cons, if_pos e, h2, h3]
    exact (List.perm_append_singleton (k, v) r).symm
   ·have h3 : mdel (y :: r) k = y :: mdel r k := by
     unfold mdel
     rw [List.filter_cons_of_pos (by simpa using e)]
    rw [List.map_cons, if_neg e, h3, List.cons_append]
    refine List.Perm.cons y (ih hd.2 ?_)
    rcases List.mem_cons.1 hm with h | h
    ·exact absurd (by rw [← h]) e
    ·exact h
theorem Agree.out {es : List (OpK × OpV)} {L : List DefT} (h : Agree es L) (t : Int) (n : List UInt8) (ht : 1 ≤ t) : (rout L t n).Perm ((mdel es (kSort t, n)).map defOf) := by
 unfold rout
 refine (h.perm.filter _).trans (List.Perm.of_eq ?_)
 rw [List.filter_map]
 unfold mdel
 congr 1
 refine List.filter_congr fun x hx => ?_
 simp only [Function.comp_apply]
 rw [rHit_of (h.good x hx), refSort_kSort t ht]
 simp
theorem Agree.op {es : List (OpK × OpV)} {L : List DefT} (h : Agree es L) (p t : Int) (n : List UInt8) : Agree (opTab es p t n) (rop L p t n) := by
 unfold rop opTab
 rw [h.err]
 by_cases h0 : opErr es p t n = 0
 ·have hb : (0 ≤ p ∧ p ≤ 1200) ∧ (1 ≤ t ∧ t ≤ 7) ∧ n.length ≤ 1000 := by
   unfold opErr at h0
   split at h0
   ·cases h0
   ·omega
  have h0' : ¬ opErr es p t n ≠ 0 := by simp [h0]
  rw [if_neg h0', if_neg h0']
  by_cases hp : p = 0
  ·have hp' : ¬ 0 < p := by omega
   rw [if_pos hp, if_neg hp']
   exact ⟨h.out t n hb.2.1.1, fun x hx => h.good x (mem_mdel hx), mdel_nodup h.nodup _⟩
  ·have hp' : 0 < p := by omega
   rw [if_neg hp, if_pos hp']
   refine ⟨?_, ?_, mput_nodup h.nodup _ _⟩
   ·refine ((h.out t n hb.2.1.1).append_right _).trans ?_
    refine List.Perm.trans ?_ ((mput_perm es (kSort t, n) (p, t) h.nodup).map defOf).symm
    rw [List.map_append]
    exact List.Perm.refl _
   ·intro x hx
    rcases mem_mput hx with hx | rfl
    ·exact h.good x hx
    ·exact ⟨rfl, hb.2.2, by simp only; omega, by simp only; omega, hb.2.1.1, hb.2.1.2⟩
 ·rw [if_pos h0, if_pos h0]
  exact h
def rPre (L : List DefT) (n : List UInt8) : Int × Int := ((rfind L n 1).1, if (rfind L n 1).2.1 = 4 then (rfind L n 1).1 - 1 else (rfind L n 1).1)
def rIn (L : List DefT) (n : List UInt8) : Int × Int × Int :=
 ((rfind L n 2).1, if (rfind L n 2).2.1 = 1 ∨ (rfind L n 2).2.1 = 2 then (rfind L n 2).1 - 1 else (rfind L n 2).1, if (rfind L n 2).2.1 = 1 ∨ (rfind L n 2).2.1 = 3 then (rfind L n 2).1 - 1 else (rfind L n 2).1)
def rPost (L : List DefT) (n : List UInt8) : Int × Int := ((rfind L n 3).1, if (rfind L n 3).2.1 = 6 then (rfind L n 3).1 - 1 else (rfind L n 3).1)
theorem Agree.get {es : List (OpK × OpV)} {L : List DefT} (h : Agree es L) (n : List UInt8) (s : Int) :
    (tsides es s n = (0, 0, 0) ∧ rfind L n s = (0, 0, [])) ∨ ∃ p t, tsides es s n = (p, p - kLeft t, p - kRight t) ∧ rfind L n s = (p, t, n) ∧ kSort t = s ∧ 1 ≤ t ∧ t ≤ 7 ∧ 1 ≤ p ∧ p ≤ 1200 := by
 rw [h.find]
 unfold tsides
 cases hg : mget es (s, n) with
 | none => exact .inl ⟨rfl, rfl⟩
 | some v =>
  obtain ⟨p, t⟩ := v
  obtain ⟨g1, _, g3, g4, g5, g6⟩ := h.good _ (mget_mem hg)
  exact .inr ⟨p, t, rfl, rfl, g1.symm, g5, g6, g3, g4⟩
theorem Agree.pre {es : List (OpK × OpV)} {L : List DefT} (h : Agree es L) (n : List UInt8) : rPre L n = ((tsides es 1 n).1, (tsides es 1 n).2.2) := by
 unfold rPre
 rcases h.get n 1 with ⟨e1, e2⟩ | ⟨p, t, e1, e2, e3, h1, h2, _⟩
 ·rw [e1, e2]; rfl
 ·rw [e1, e2]
  have : t = 1 ∨ t = 2 ∨ t = 3 ∨ t = 4 ∨ t = 5 ∨ t = 6 ∨ t = 7 := by omega
  rcases this with rfl | rfl | rfl | rfl | rfl | rfl | rfl <;> simp [kSort] at e3 <;> simp [kRight]
theorem Agree.inf {es : List (OpK × OpV)} {L : List DefT} (h : Agree es L) (n : List UInt8) : rIn L n = tsides es 2 n := by
 unfold rIn
 rcases h.get n 2 with ⟨e1, e2⟩ | ⟨p, t, e1, e2, e3, h1, h2, _⟩
 ·rw [e1, e2]; rfl
 ·rw [e1, e2]
  have : t = 1 ∨ t = 2 ∨ t = 3 ∨ t = 4 ∨ t = 5 ∨ t = 6 ∨ t = 7 := by omega
  rcases this with rfl | rfl | rfl | rfl | rfl | rfl | rfl <;> simp [kSort] at e3 <;> simp [kRight, kLeft]
theorem Agree.post {es : List (OpK × OpV)} {L : List DefT} (h : Agree es L) (n : List UInt8) : rPost L n = ((tsides es 3 n).1, (tsides es 3 n).2.1) := by
 unfold rPost
 rcases h.get n 3 with ⟨e1, e2⟩ | ⟨p, t, e1, e2, e3, h1, h2, _⟩
 ·rw [e1, e2]; rfl
 ·rw [e1, e2]
  have : t = 1 ∨ t = 2 ∨ t = 3 ∨ t = 4 ∨ t = 5 ∨ t = 6 ∨ t = 7 := by omega
  rcases this with rfl | rfl | rfl | rfl | rfl | rfl | rfl <;> simp [kSort] at e3 <;> simp [kLeft]
open Go.RowKit Go.Maps Go.Lib
def encDef (x : DefT) : List Value := [.int .i64 x.1, .int .i64 x.2.1, .string ⟨x.2.2.toArray⟩]
section
variable {α : Type} {w w' : World} {sz : Nat} {enc : α → List Value} {v : Value} {l : List α}
end
theorem encDef_len (x : DefT) : (encDef x).length = 3 := rfl
theorem encDef_one (x : DefT) : ∀ u ∈ encDef x, u.oneCell' = true := by
 intro u hu
 simp [encDef] at hu
 rcases hu with rfl | rfl | rfl <;> rfl
theorem refDef_info : ∃ i z, Tryz.prog.info? 56 = some i ∧ i.zero = some z ∧ i.size = 3 ∧ i.bytes = 32 ∧ z.cells.size = 3 := by
 refine ⟨_, _, rfl, rfl, ?_, ?_, ?_⟩ <;> kernel_rfl
theorem below_grown {w w' w'' : World} {B : Nat} {row : Option Nat} (h : Below B w w') (hg : w'.grownBy w'' row) (hr : ∀ g, row = some g → B ≤ g) (hB : B ≤ w'.heap.size := by omega) : Below B w w'' :=
 ⟨hg.os.trans h.os, hg.tape.trans h.tape, hg.output.trans h.output, Nat.le_trans h.size hg.size, fun k hk => (hg.block k (by omega) (fun e => by have := hr k e.symm; omega)).trans (h.block k hk)⟩
theorem cell_alloc2 (w : World) (a : Obj) (cs : Array Value) (t : TypeId) (i : Nat) (u : Value) (h : cs[i]? = some u) :
    (((w.alloc a).alloc (.cells cs t))).cell? ⟨w.heap.size + 1, i, none⟩ = some u := by
 have hb : (((w.alloc a).alloc (.cells cs t))).heap[w.heap.size + 1]? = some (.cells cs t (0, 0)) := by
  have := heap_alloc_new (w.alloc a) (.cells cs t)
  have e : (w.alloc a).heap.size = w.heap.size + 1 := by simp
  rw [e] at this
  exact this
 rw [cell_of_row _ _ i cs t (0, 0) hb]
 exact h
end Go.Proofs.YtiffopheamnngaaGreatDoor
namespace Go.Proofs.YtiffopheamnngaaGreatDoor
open Go.RowKit Go.Maps
set_option maxRecDepth 100000
structure RTab (w : World) (rt : Nat) (L : List DefT) : Prop where
 ex : ∃ v, w.cell? ⟨rt, 0, none⟩ = some v ∧ w.frozen? ⟨rt, 0, none⟩ = false ∧ Row w (rt + 1) 56 3 encDef v L
theorem RTab.lt {w : World} {rt : Nat} {L : List DefT} (h : RTab w rt L) : rt < w.heap.size := by
 obtain ⟨v, hc, _⟩ := h.ex
 exact World.block_lt_of_cell? w _ hc
theorem RTab.keep {w w' : World} {rt : Nat} {L : List DefT} (h : RTab w rt L) (hb : ∀ k, rt ≤ k → k < w.heap.size → w'.heap[k]? = w.heap[k]?) : RTab w' rt L := by
 have hlt := h.lt
 obtain ⟨v, hc, hf, hr⟩ := h.ex
 refine ⟨v, (World.cell?_of_block (a := ⟨rt, 0, none⟩) (hb rt (Nat.le_refl _) hlt)).trans hc, (World.frozen?_of_block (a := ⟨rt, 0, none⟩) (hb rt (Nat.le_refl _) hlt)).trans hf, hr.keep fun k hk => ?_⟩
 obtain ⟨h1, h2⟩ := hr.lt k hk
 exact hb k (by omega) h2
theorem RTab.later {w w' : World} {rt : Nat} {L : List DefT} (h : RTab w rt L) (hb : Below w.heap.size w w') : RTab w' rt L := h.keep fun k _ hk => hb.block k hk
theorem RTab.open {w : World} {rt : Nat} {L : List DefT} (h : RTab w rt L) : ∃ A cap, w.cell? ⟨rt, 0, none⟩ = some (.slice A L.length cap) ∧ w.frozen? ⟨rt, 0, none⟩ = false ∧
    (L ≠ [] → ∃ g, A = some ⟨g, 0, none⟩ ∧ g < w.heap.size ∧ rt < g ∧ ∀ i x, L[i]? = some x → ∀ j u, (encDef x)[j]? = some u → w.cell? ⟨g, i * 3 + j, none⟩ = some u) := by
 obtain ⟨v, hc, hf, hr⟩ := h.ex
 obtain ⟨A, cap, rfl⟩ := hr.shape
 refine ⟨A, cap, hc, hf, fun hne => ?_⟩
 obtain ⟨g, cap', e1, h2, h3, _, h5⟩ := hr.cells encDef_len hne
 cases e1
 exact ⟨g, rfl, h3, by omega, fun i x hx j u hu => (h5 i x hx j u hu).1⟩
theorem find_take_none {L : List DefT} {k : Nat} {x : DefT} {p : DefT → Bool} (h : (L.take k).find? p = none) (hx : L[k]? = some x) :
    (p x = true → L.find? p = some x) ∧ (p x = false → (L.take (k + 1)).find? p = none) := by
 obtain ⟨hk, rfl⟩ := List.getElem?_eq_some_iff.1 hx
 have e : L = L.take k ++ L[k] :: L.drop (k + 1) := by rw [List.getElem_cons_drop, List.take_append_drop]
 refine ⟨fun hp => ?_, fun hp => ?_⟩
 ·generalize L[k] = x at *
  rw [e, List.find?_append, h, Option.none_or, List.find?_cons_of_pos hp]
 ·rw [List.take_succ_eq_append_getElem hk, List.find?_append, h, Option.none_or, List.find?_cons_of_neg (by simp [hp])]
  rfl
theorem one_cells {w1 : World} {b : Nat} {a0 a1 a2 : Value} {t : TypeId} (h : w1.heap[b]? = some (.cells #[a0, a1, a2] t (0, 0))) :
    w1.cell? ⟨b, 0, none⟩ = some a0 ∧ w1.cell? ⟨b, 1, none⟩ = some a1 ∧ w1.cell? ⟨b, 2, none⟩ = some a2 ∧ (∀ o, w1.frozen? ⟨b, o, none⟩ = false) :=
 ⟨by rw [cell_of_row w1 b 0 _ t (0, 0) h]; rfl, by rw [cell_of_row w1 b 1 _ t (0, 0) h]; rfl, by rw [cell_of_row w1 b 2 _ t (0, 0) h]; rfl, fun o => by simp [World.frozen?, h]⟩
set_option maxHeartbeats 2000000 in
theorem find_any (w : World) (rt : Nat) (L : List DefT) (h : RTab w rt L) (n : List UInt8) (s : Int) (hL : L.length ≤ 100000) :
    Calls Tryz.prog 42 #[.pointer (some ⟨rt, 0, none⟩), .string ⟨n.toArray⟩, .int .i64 s] w fun e w' => e = .returned (.agg (encDef (rfind L n s)).toArray) ∧ Below w.heap.size w w' := by
 obtain ⟨A, cap, hc, -, hA⟩ := h.open
 have hrl := h.lt
 have HA := Lib.hid hA
 clear h hA
 go_enter Tryz.func42, Tryz.ntmps42
 go_wp2_with fail
 obtain ⟨w1, hw1⟩ : ∃ w1, w1 = w.alloc (.cells #[.int .i64 0, .int .i64 0, .string ⟨#[]⟩] 56) := ⟨_, rfl⟩
 rw [← hw1]
 have HB1 : Hid (Below w.heap.size w w1) := by rw [hw1]; exact (Below.refl _ _).alloc (Nat.le_refl _) _
 have HR1 : Hid (w1.heap[w.heap.size]? = some (.cells #[.int .i64 0, .int .i64 0, .string ⟨#[]⟩] 56 (0, 0))) := by rw [hw1]; exact heap_alloc_new w _
 have hs1 : w1.heap.size = w.heap.size + 1 := by rw [hw1]; simp
 clear hw1
 go_loopw [14] (fun i wr => ∃ k : Nat, k ≤ L.length ∧ i = .int .i64 k ∧ Hid ((L.take k).find? (rHit n s) = none) ∧ Below w1.heap.size w1 wr) (fun i _ => L.length - (intOf i).toNat)
 case atStart => exact ⟨0, Nat.zero_le _, rfl, Lib.hid (by simp), Below.refl _ _⟩
 case round =>
  obtain ⟨k, hk, rfl, HN, hb⟩ := hrel
  have HBR : Hid (Below w.heap.size w wr) := HB1.out.trans (hb.mono HB1.out.size)
  have hwr := hb.size
  have hr0 := (hb.block w.heap.size (by omega)).trans HR1.out
  by_cases hlt : k < L.length
  ·have hne : L ≠ [] := by rintro rfl; simp at hlt
   obtain ⟨g, hA', hg, -, hcs⟩ := HA.out hne
   have hx := List.getElem?_eq_getElem hlt
   generalize L[k] = x at hx
   obtain ⟨f1, f2⟩ := find_take_none HN.out hx
   have d0 := hcs k x hx 0 _ rfl
   have d1 := hcs k x hx 1 _ rfl
   have d2 := hcs k x hx 2 _ rfl
   rw [← HBR.out.cell (p := ⟨g, k * 3 + 0, none⟩) hg] at d0
   rw [← HBR.out.cell (p := ⟨g, k * 3 + 1, none⟩) hg] at d1
   rw [← HBR.out.cell (p := ⟨g, k * 3 + 2, none⟩) hg] at d2
   simp only [Nat.add_zero] at d0
   have hlt' : (k : Int) < (L.length : Int) := by omega
   have HBW := Lib.hid (hb.alloc hb.size (.cells #[.int .i64 x.1, .int .i64 x.2.1, .string ⟨x.2.2.toArray⟩] 56))
   clear hcs hb hx
   subst hA'
   obtain ⟨x1, x2, x3⟩ := x
   simp only at d0 d1 d2 HBW f1 f2
   by_cases e3 : x3 = n
   ·subst e3
    by_cases e2 : refSort x2 = s
    ·have HF : Hid (rfind L x3 s = (x1, x2, x3)) := Lib.hid (by unfold rfind; rw [f1 (by simp [rHit, e2])]; rfl)
     subst e2
     clear f1 f2
     have HBZ := Lib.hid ((HBR.out.alloc HBR.out.size (.cells #[.int .i64 x1, .int .i64 x2, .string ⟨x3.toArray⟩] 56)))
     have hr1 : (wr.alloc (.cells #[.int .i64 x1, .int .i64 x2, .string ⟨x3.toArray⟩] 56)).heap[w.heap.size]? = some (.cells #[.int .i64 0, .int .i64 0, .string ⟨#[]⟩] 56 (0, 0)) := by
      rw [Below.heap_alloc _ _ _ (by omega)]; exact hr0
     obtain ⟨r0, r1, r2, rf⟩ := one_cells hr1
     clear hr0 hr1
     go_wp2_with (first | (go_at_call 41; refine (refSort_any _ _).mono ?_; rintro e w' ⟨rfl, rfl⟩))
     refine bodyPost_ret (v := .agg #[.int .i64 x1, .int .i64 x2, .string ⟨x3.toArray⟩]) (by simp [results, Tryz.results42, go_sem, r0, r1, r2]) rfl ⟨by rw [HF.out]; rfl, ?_⟩
     repeat (refine Below.setCell ?_ (by simp; try omega) _)
     exact HBZ.out
    ·have HN2 := Lib.hid (f2 (by simp [rHit, e2]))
     clear f1 f2
     go_wp2_with (first | (go_at_call 41; refine (refSort_any _ _).mono ?_; rintro e w' ⟨rfl, rfl⟩))
     go_roundw
     case rel => exact ⟨k + 1, hlt, by go_num, HN2, HBW.out⟩
     case measure => simp [intOf]; omega
   ·have HN2 := Lib.hid (f2 (by simp [rHit, e3]))
    clear f1 f2
    go_wp2_with fail
    go_roundw
    case rel => exact ⟨k + 1, hlt, by go_num, HN2, HBW.out⟩
    case measure => simp [intOf]; omega
  ·have hkn : k = L.length := by omega
   subst hkn
   have HF : Hid (rfind L n s = (0, 0, [])) := Lib.hid (by have h0 := HN.out; rw [List.take_length] at h0; unfold rfind; rw [h0]; rfl)
   obtain ⟨r0, r1, r2, rf⟩ := one_cells hr0
   clear hr0 hb
   go_wp2_with fail
   refine bodyPost_ret (v := .agg #[.int .i64 0, .int .i64 0, .string ⟨#[]⟩]) (by simp [results, Tryz.results42, go_sem, r0, r1, r2]) rfl ⟨by rw [HF.out]; rfl, ?_⟩
   repeat (refine Below.setCell ?_ (by simp; try omega) _)
   exact HBR.out
end Go.Proofs.YtiffopheamnngaaGreatDoor
