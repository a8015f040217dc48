import Derived.Test.YtjdnigepnfeboaaGreatDoorJG17
import Derived.Maps.RangeRun
namespace Go.Proofs.YtjdnigepnfeboaaGreatDoor
open Go.RowKit Go.Maps
set_option maxRecDepth 100000
def ekS (s : List UInt8) : Value := .string ⟨s.toArray⟩
def okS (s : List UInt8) : Prop := s.length ≤ 1000000
theorem strKE : KE Tryz.prog 9 ekS okS :=
 ⟨string_keyed Tryz.underlying9, fun k hk => ⟨_, Go.WideMaps.keyOf_string_mk Tryz.underlying9 (by
     unfold okS at hk
     show k.toArray.size ≤ maxLen
     unfold maxLen
     simp
     omega)⟩,
  fun a b h => by
   simp only [ekS, Value.string.injEq, ByteArray.mk.injEq] at h
   simpa using h⟩
def zTV : TV := ⟨0, 0, [], none, 0, 0⟩
theorem zTV_rep (n : Nat) : ((List.replicate n zTV).flatMap encTV).length = n * 4 := by
 rw [length_flatMap_enc encTV_len, List.length_replicate]
theorem made_terms (z : Value) (hz : z.cells = #[.int .i64 0, .int .i64 0, .string ⟨#[]⟩, .slice none 0 0]) (n : Nat) : (madeCells z.cells (n * 4)).toList = (List.replicate n zTV).flatMap encTV := by
 rw [hz]
 apply List.ext_getElem?
 intro i
 by_cases hi : i < n * 4
 ·have h1 : i / 4 < n := by omega
  have h2 : i % 4 < 4 := Nat.mod_lt _ (by omega)
  have h3 : i / 4 * 4 + i % 4 = i := by omega
  have h4 : (List.replicate n zTV)[i / 4]? = some zTV := by rw [List.getElem?_replicate, if_pos h1]
  have e1 : (madeCells #[.int .i64 0, .int .i64 0, .string ⟨#[]⟩, .slice none 0 0] (n * 4)).toList[i]? = (encTV zTV)[i % 4]? := by
   rcases (show i % 4 = 0 ∨ i % 4 = 1 ∨ i % 4 = 2 ∨ i % 4 = 3 by omega) with e | e | e | e <;> simp [madeCells, hi, e, encTV, zTV]
  have h5 : i % 4 < (encTV zTV).length := by rw [encTV_len]; exact h2
  rw [e1, List.getElem?_eq_getElem h5]
  have := flatMap_get encTV_len _ _ _ _ _ h4 (List.getElem?_eq_getElem h5)
  rw [h3] at this
  exact this.symm
 ·rw [List.getElem?_eq_none (by simp [madeCells]; omega), List.getElem?_eq_none (by rw [zTV_rep]; omega)]
theorem term_info : ∃ i z, Tryz.prog.info? 27 = some i ∧ i.zero = some z ∧ i.size = 4 ∧ i.bytes = 56 ∧ z.cells = #[.int .i64 0, .int .i64 0, .string ⟨#[]⟩, .slice none 0 0] := by
 refine ⟨_, _, rfl, rfl, ?_, ?_, ?_⟩ <;> kernel_rfl
theorem run_terms (w : World) (n : Nat) (hn : n ≤ 1000000) :
    (Instr.makeSlice 25 (.int .i64 (n : Int)) (.int .i64 (n : Int))).run Tryz.prog w = .ok (.slice (some ⟨w.heap.size, 0, none⟩) n n) (w.alloc (.cells ((List.replicate n zTV).flatMap encTV).toArray 27)) := by
 obtain ⟨i, z, h1, h2, h3, h4, h5⟩ := term_info
 have := run_make (P := Tryz.prog) w 25 27 i z Tryz.underlying25 h1 h2 .i64 .i64 n n (by omega) (by omega) (by rw [h4]; omega) (by omega)
 simp only [Int.toNat_natCast, h3] at this
 rw [this]
 congr 3
 rw [← made_terms z h5 n]
theorem terms_row (w : World) (B n : Nat) (hB : B ≤ w.heap.size) (hn : n ≤ 1000000) : Row (w.alloc (.cells ((List.replicate n zTV).flatMap encTV).toArray 27)) B 27 4 encTV (.slice (some ⟨w.heap.size, 0, none⟩) n n) (List.replicate n zTV) := by
 refine ⟨?_, ?_⟩
 ·rw [zTV_rep, List.length_replicate]
 ·rw [List.length_replicate]
  refine .inr ⟨w.heap.size, n, ((List.replicate n zTV).flatMap encTV).toArray, rfl, hB, heap_alloc_new w _, Nat.le_refl _, by unfold maxLen; omega, ?_, ?_⟩
  ·rw [List.size_toArray, zTV_rep]
  ·exact List.take_of_length_le (by rw [zTV_rep]; exact Nat.le_refl _)
theorem int_infoZ : ∃ i z, Tryz.prog.info? 3 = some i ∧ i.zero = some z ∧ i.size = 1 ∧ i.bytes = 8 ∧ z.cells = #[.int .i64 0] := by
 refine ⟨_, _, rfl, rfl, ?_, ?_, ?_⟩ <;> kernel_rfl
theorem made_ints (z : Value) (hz : z.cells = #[.int .i64 0]) (n : Nat) : (madeCells z.cells n).toList = (List.replicate n 0).flatMap encN := by
 rw [hz]
 apply List.ext_getElem?
 intro i
 by_cases hi : i < n
 ·have h4 : (List.replicate n 0)[i]? = some 0 := by rw [List.getElem?_replicate, if_pos hi]
  have h5 := flatMap_get encN_len _ i 0 0 (.int .i64 ((0 : Nat) : Int)) h4 rfl
  rw [Nat.mul_one, Nat.add_zero] at h5
  rw [h5]
  simp [madeCells, hi, Nat.mod_one]
 ·rw [List.getElem?_eq_none (by simp [madeCells]; omega), List.getElem?_eq_none (by rw [length_flatMap_enc encN_len, List.length_replicate]; omega)]
theorem run_ints (w : World) (n : Nat) (hn : n ≤ 1000000) :
    (Instr.makeSlice 157 (.int .i64 (n : Int)) (.int .i64 (n : Int))).run Tryz.prog w = .ok (.slice (some ⟨w.heap.size, 0, none⟩) n n) (w.alloc (.cells ((List.replicate n 0).flatMap encN).toArray 3)) := by
 obtain ⟨i, z, h1, h2, h3, h4, h5⟩ := int_infoZ
 have := run_make (P := Tryz.prog) w 157 3 i z Tryz.underlying157 h1 h2 .i64 .i64 n n (by omega) (by omega) (by rw [h4]; omega) (by omega)
 simp only [Int.toNat_natCast, h3, Nat.mul_one] at this
 rw [this]
 congr 3
 rw [← made_ints z h5 n]
theorem ints_row (w : World) (B n : Nat) (hB : B ≤ w.heap.size) (hn : n ≤ 1000000) : Row (w.alloc (.cells ((List.replicate n 0).flatMap encN).toArray 3)) B 3 1 encN (.slice (some ⟨w.heap.size, 0, none⟩) n n) (List.replicate n 0) := by
 have hl : ((List.replicate n 0).flatMap encN).length = n := by rw [length_flatMap_enc encN_len, List.length_replicate, Nat.mul_one]
 refine ⟨?_, ?_⟩
 ·rw [hl, List.length_replicate, Nat.mul_one]
 ·rw [List.length_replicate]
  refine .inr ⟨w.heap.size, n, ((List.replicate n 0).flatMap encN).toArray, rfl, hB, heap_alloc_new w _, Nat.le_refl _, by unfold maxLen; omega, ?_, ?_⟩
  ·rw [List.size_toArray, hl, Nat.mul_one]
  ·exact List.take_of_length_le (by rw [hl, Nat.mul_one]; exact Nat.le_refl _)
open Go.Maps
structure PS where
 cs : List Sc
 fr : List (Int × Nat)
mutual
def putT : Tm → PS → Nat × PS
 | .mk k n s l, p =>
  if k = 1 then
   match mget p.fr n with
   | some a => (a, p)
   | none => (p.cs.length, ⟨p.cs ++ [⟨1, 0, [], [], none⟩], p.fr ++ [(n, p.cs.length)]⟩)
  else if k = 4 then
   (p.cs.length, ⟨(putL l ⟨p.cs ++ [⟨4, 0, s, [], none⟩], p.fr⟩).2.cs.set p.cs.length ⟨4, 0, s, (putL l ⟨p.cs ++ [⟨4, 0, s, [], none⟩], p.fr⟩).1, none⟩, (putL l ⟨p.cs ++ [⟨4, 0, s, [], none⟩], p.fr⟩).2.fr⟩)
  else (p.cs.length, ⟨p.cs ++ [⟨k, n, s, [], none⟩], p.fr⟩)
def putL : List Tm → PS → List Nat × PS
 | [], p => ([], p)
 | t :: r, p => ((putT t p).1 :: (putL r (putT t p).2).1, (putL r (putT t p).2).2)
end
structure PutOk (p q : PS) (T T' : Nat → Tm) : Prop where
 len : p.cs.length ≤ q.cs.length
 old : ∀ i, i < p.cs.length → q.cs[i]? = p.cs[i]? ∧ T' i = T i
 new : ∀ (i : Nat) c, p.cs.length ≤ i → q.cs[i]? = some c → c.to = none ∧ (∀ a ∈ c.args, a < q.cs.length) ∧ (c.k = 1 → ∃ n, (n, i) ∈ q.fr) ∧ (c.k ≠ 1 → T' i = .mk c.k c.n c.s (c.args.map T'))
 fr : ∀ x ∈ p.fr, x ∈ q.fr
structure FrOk (p : PS) (T : Nat → Tm) : Prop where
 at' : ∀ x ∈ p.fr, x.2 < p.cs.length ∧ T x.2 = .mk 1 x.1 [] []
 one : ∀ x ∈ p.fr, ∀ y ∈ p.fr, x.1 = y.1 → x.2 = y.2
theorem PutOk.refl (p : PS) (T : Nat → Tm) : PutOk p p T T := ⟨Nat.le_refl _, fun _ _ => ⟨rfl, rfl⟩, fun i c hi hc => absurd (List.getElem?_eq_some_iff.1 hc).1 (by omega), fun _ h => h⟩
theorem PutOk.trans {p q r : PS} {T T' T'' : Nat → Tm} (h : PutOk p q T T') (h' : PutOk q r T' T'') (hT : ∀ (i : Nat) c, p.cs.length ≤ i → q.cs[i]? = some c → ∀ a ∈ c.args, a < q.cs.length) : PutOk p r T T'' := by
 refine ⟨Nat.le_trans h.len h'.len, fun i hi => ⟨(h'.old i (Nat.lt_of_lt_of_le hi h.len)).1.trans (h.old i hi).1, (h'.old i (Nat.lt_of_lt_of_le hi h.len)).2.trans (h.old i hi).2⟩, fun i c hi hc => ?_, fun x hx => h'.fr x (h.fr x hx)⟩
 by_cases hq : i < q.cs.length
 ·obtain ⟨h1, h2⟩ := h'.old i hq
  rw [h1] at hc
  obtain ⟨g1, g2, g3, g4⟩ := h.new i c hi hc
  refine ⟨g1, fun a ha => Nat.lt_of_lt_of_le (g2 a ha) h'.len, fun e => (g3 e).imp fun n hn => h'.fr _ hn, fun e => ?_⟩
  rw [h2, g4 e]
  congr 1
  exact List.map_congr_left fun a ha => ((h'.old a (hT i c hi hc a ha)).2).symm
 ·exact h'.new i c (by omega) hc
theorem may_args {k n : Int} {s : List UInt8} {l : List Tm} (h : (Tm.mk k n s l).may = true) : ∀ t ∈ l, t.may = true := by
 rw [Tm.may, Bool.and_eq_true] at h
 have : ∀ l : List Tm, Tm.mays l = true → ∀ t ∈ l, t.may = true := by
  intro l
  induction l with
  | nil => intro _ t ht; cases ht
  | cons a r ih =>
   intro h t ht
   rw [Tm.mays, Bool.and_eq_true] at h
   rcases List.mem_cons.1 ht with rfl | ht
   ·exact h.1
   ·exact ih h.2 t ht
 exact this l h.2
theorem may_leaf {k n : Int} {s : List UInt8} {l : List Tm} (h : (Tm.mk k n s l).may = true) : (k = 1 → s = [] ∧ l = []) ∧ (k ≠ 4 → l = []) ∧ (k = 4 → n = 0) := by
 rw [Tm.may, Bool.and_eq_true] at h
 have h1 := h.1
 unfold mayP at h1
 refine ⟨fun e => ?_, fun e => ?_, fun e => ?_⟩
 ·rw [if_pos e] at h1
  have := of_decide_eq_true h1
  exact ⟨this.2.1, List.length_eq_zero_iff.1 this.2.2⟩
 ·split at h1
  ·exact List.length_eq_zero_iff.1 (of_decide_eq_true h1).2.2
  ·split at h1
   ·exact List.length_eq_zero_iff.1 (of_decide_eq_true h1).2
   ·split at h1
    ·exact List.length_eq_zero_iff.1 (of_decide_eq_true h1).2.2
    ·first
      | cases h1
      | (rw [if_neg e] at h1; cases h1)
 ·subst e
  rw [if_neg (by decide), if_neg (by decide), if_neg (by decide), if_pos rfl] at h1
  exact (of_decide_eq_true h1).1
mutual
theorem putT_ok : ∀ (t : Tm) (p : PS) (T : Nat → Tm), FrOk p T → t.may = true →
    ∃ T', PutOk p (putT t p).2 T T' ∧ FrOk (putT t p).2 T' ∧ (putT t p).1 < (putT t p).2.cs.length ∧ T' (putT t p).1 = t
 | .mk k n s l, p, T, hF, hm => by
  obtain ⟨m1, m2, m3⟩ := may_leaf hm
  by_cases h1 : k = 1
  ·subst h1
   obtain ⟨rfl, rfl⟩ := m1 rfl
   cases hg : mget p.fr n with
   | some a =>
    have e : putT (.mk 1 n [] []) p = (a, p) := by rw [putT, if_pos rfl, hg]
    rw [e]
    have hmem : (n, a) ∈ p.fr := mget_mem hg
    obtain ⟨h2, h3⟩ := hF.at' _ hmem
    exact ⟨T, PutOk.refl p T, hF, h2, h3⟩
   | none =>
    have e : putT (.mk 1 n [] []) p = (p.cs.length, ⟨p.cs ++ [⟨1, 0, [], [], none⟩], p.fr ++ [(n, p.cs.length)]⟩) := by rw [putT, if_pos rfl, hg]
    rw [e]
    refine ⟨fun i => if i = p.cs.length then .mk 1 n [] [] else T i, ⟨by simp, fun i hi => ⟨List.getElem?_append_left hi, if_neg (by omega)⟩, fun i c hi hc => ?_, fun x hx => List.mem_append_left _ hx⟩, ⟨fun x hx => ?_, fun x hx y hy exy => ?_⟩, by simp, if_pos rfl⟩
    ·rw [List.getElem?_append_right hi] at hc
     have hz : i - p.cs.length = 0 := by have := (List.getElem?_eq_some_iff.1 hc).1; simpa using this
     rw [hz] at hc
     injection hc with hc
     subst hc
     refine ⟨rfl, fun a ha => (by cases ha), fun _ => ⟨n, ?_⟩, fun e => absurd rfl e⟩
     have : i = p.cs.length := by omega
     rw [this]
     exact List.mem_append_right _ (List.mem_singleton.2 rfl)
    ·rcases List.mem_append.1 hx with hx | hx
     ·obtain ⟨h2, h3⟩ := hF.at' x hx
      exact ⟨by simp only [List.length_append, List.length_singleton]; omega, by rw [if_neg (by omega)]; exact h3⟩
     ·rw [List.mem_singleton] at hx
      subst hx
      exact ⟨by simp, if_pos rfl⟩
    ·have hno : ∀ z ∈ p.fr, z.1 ≠ n := fun z hz e => by
      exact mget_eq_none hg z hz e
     rcases List.mem_append.1 hx with hx | hx
     ·rcases List.mem_append.1 hy with hy | hy
      ·exact hF.one x hx y hy exy
      ·rw [List.mem_singleton] at hy
       subst hy
       exact absurd exy (hno x hx)
     ·rw [List.mem_singleton] at hx
      subst hx
      rcases List.mem_append.1 hy with hy | hy
      ·exact absurd exy.symm (hno y hy)
      ·rw [List.mem_singleton] at hy
       subst hy
       rfl
  ·by_cases h4 : k = 4
   ·subst h4
    obtain rfl := m3 rfl
    let p1 : PS := ⟨p.cs ++ [⟨4, 0, s, [], none⟩], p.fr⟩
    have e : putT (.mk 4 0 s l) p = (p.cs.length, ⟨(putL l p1).2.cs.set p.cs.length ⟨4, 0, s, (putL l p1).1, none⟩, (putL l p1).2.fr⟩) := by rw [putT, if_neg h1, if_pos rfl]
    have hF1 : FrOk p1 (fun i => if i = p.cs.length then .mk 4 0 s l else T i) := ⟨fun x hx => by
     obtain ⟨h2, h3⟩ := hF.at' x hx
     exact ⟨by show x.2 < (p.cs ++ [_]).length; rw [List.length_append]; omega, by rw [if_neg (by omega)]; exact h3⟩, hF.one⟩
    obtain ⟨T', hP, hF', ha, hT⟩ := putL_ok l p1 (fun i => if i = p.cs.length then .mk 4 0 s l else T i) hF1 (may_args hm)
    have hl1 : p1.cs.length = p.cs.length + 1 := by show (p.cs ++ [_]).length = _; simp
    have hlen := hP.len
    rw [hl1] at hlen
    have hat : T' p.cs.length = .mk 4 0 s l := by
     rw [(hP.old p.cs.length (by omega)).2]
     exact if_pos rfl
    rw [e]
    refine ⟨T', ⟨by simp only [List.length_set]; omega, fun i hi => ⟨?_, ?_⟩, fun i c hi hc => ?_, fun x hx => hP.fr x hx⟩, ⟨fun x hx => ?_, hF'.one⟩, by simp only [List.length_set]; omega, hat⟩
    ·simp only
     rw [List.getElem?_set_ne (by omega), (hP.old i (by omega)).1]
     exact List.getElem?_append_left hi
    ·rw [(hP.old i (by omega)).2]
     exact if_neg (by omega)
    ·simp only at hc ⊢
     by_cases ei : i = p.cs.length
     ·subst ei
      rw [List.getElem?_set_self (by omega)] at hc
      injection hc with hc
      subst hc
      refine ⟨rfl, fun a haa => by rw [List.length_set]; exact ha a haa, fun e => absurd (show (4 : Int) = 1 from e) (by decide), fun _ => ?_⟩
      rw [hat, hT]
     ·rw [List.getElem?_set_ne (Ne.symm ei)] at hc
      obtain ⟨g1, g2, g3, g4⟩ := hP.new i c (by omega) hc
      exact ⟨g1, fun a haa => by rw [List.length_set]; exact g2 a haa, g3, g4⟩
    ·obtain ⟨h2, h3⟩ := hF'.at' x hx
     exact ⟨by simp only [List.length_set]; exact h2, h3⟩
   ·obtain rfl := m2 h4
    have e : putT (.mk k n s []) p = (p.cs.length, ⟨p.cs ++ [⟨k, n, s, [], none⟩], p.fr⟩) := by rw [putT, if_neg h1, if_neg h4]
    rw [e]
    refine ⟨fun i => if i = p.cs.length then .mk k n s [] else T i, ⟨by simp, fun i hi => ⟨List.getElem?_append_left hi, if_neg (by omega)⟩, fun i c hi hc => ?_, fun x hx => hx⟩, ⟨fun x hx => ?_, hF.one⟩, by simp, if_pos rfl⟩
    ·rw [List.getElem?_append_right hi] at hc
     have hz : i - p.cs.length = 0 := by have := (List.getElem?_eq_some_iff.1 hc).1; simpa using this
     rw [hz] at hc
     injection hc with hc
     subst hc
     exact ⟨rfl, fun a ha => (by cases ha), fun e => absurd e h1, fun _ => if_pos (by omega)⟩
    ·obtain ⟨h2, h3⟩ := hF.at' x hx
     exact ⟨by simp only [List.length_append, List.length_singleton]; omega, by rw [if_neg (by omega)]; exact h3⟩
theorem putL_ok : ∀ (l : List Tm) (p : PS) (T : Nat → Tm), FrOk p T → (∀ t ∈ l, t.may = true) →
    ∃ T', PutOk p (putL l p).2 T T' ∧ FrOk (putL l p).2 T' ∧ (∀ a ∈ (putL l p).1, a < (putL l p).2.cs.length) ∧ (putL l p).1.map T' = l
 | [], p, T, hF, _ => ⟨T, by rw [putL]; exact PutOk.refl p T, by rw [putL]; exact hF, by rw [putL]; exact fun a ha => (by cases ha), by rw [putL]; rfl⟩
 | t :: r, p, T, hF, hm => by
  obtain ⟨T1, hP1, hF1, ha1, hT1⟩ := putT_ok t p T hF (hm t (List.mem_cons_self ..))
  obtain ⟨T2, hP2, hF2, ha2, hT2⟩ := putL_ok r (putT t p).2 T1 hF1 fun x hx => hm x (List.mem_cons_of_mem _ hx)
  rw [putL]
  refine ⟨T2, hP1.trans hP2 fun i c hi hc => (hP1.new i c hi hc).2.1, hF2, fun a ha => ?_, ?_⟩
  ·rcases List.mem_cons.1 ha with rfl | ha
   ·exact Nat.lt_of_lt_of_le ha1 hP2.len
   ·exact ha2 a ha
  ·rw [List.map_cons, hT2, (hP2.old _ ha1).2, hT1]
end
theorem put_shape (t : Tm) (hm : t.may = true) : ∃ T, Shape (putT t ⟨[], []⟩).2.cs T ∧ T (putT t ⟨[], []⟩).1 = t ∧ (putT t ⟨[], []⟩).1 < (putT t ⟨[], []⟩).2.cs.length ∧ (∀ (i : Nat) c, (putT t ⟨[], []⟩).2.cs[i]? = some c → c.to = none ∧ ∀ a ∈ c.args, a < (putT t ⟨[], []⟩).2.cs.length) := by
 obtain ⟨T, hP, hF, h1, h2⟩ := putT_ok t ⟨[], []⟩ (fun _ => .mk 0 0 [] []) ⟨fun x hx => (by cases hx), fun x hx => (by cases hx)⟩ hm
 refine ⟨T, ⟨fun i c hc hk => ?_, fun i j c d hc hd hk hk' he => ?_, fun i c hc hk => (hP.new i c (Nat.zero_le _) hc).2.2.2 hk, fun i c hc ht => absurd (hP.new i c (Nat.zero_le _) hc).1 ht⟩, h2, h1, fun i c hc => ⟨(hP.new i c (Nat.zero_le _) hc).1, (hP.new i c (Nat.zero_le _) hc).2.1⟩⟩
 ·obtain ⟨n, hn⟩ := (hP.new i c (Nat.zero_le _) hc).2.2.1 hk
  rw [(hF.at' _ hn).2]
  rfl
 ·obtain ⟨n, hn⟩ := (hP.new i c (Nat.zero_le _) hc).2.2.1 hk
  obtain ⟨m, hm'⟩ := (hP.new j d (Nat.zero_le _) hd).2.2.1 hk'
  have e1 := (hF.at' _ hn).2
  have e2 := (hF.at' _ hm').2
  simp only at e1 e2
  rw [e1, e2] at he
  injection he with _ he
  exact hF.one _ hn _ hm' he
mutual
def vrT : Tm → List Int
 | .mk k n _ l => (if k = 1 then [n] else []) ++ vrL l
def vrL : List Tm → List Int
 | [] => []
 | t :: r => vrT t ++ vrL r
end
mutual
def vmT (f : Int → Int) : Tm → Tm
 | .mk k n s l => .mk k (if k = 1 then f n else n) s (vmL f l)
def vmL (f : Int → Int) : List Tm → List Tm
 | [] => []
 | t :: r => vmT f t :: vmL f r
end
theorem vmL_map (f : Int → Int) : ∀ l : List Tm, vmL f l = l.map (vmT f)
 | [] => rfl
 | t :: r => by rw [vmL, vmL_map f r]; rfl
inductive Got (cs : List Sc) : Nat → Tm → Prop
 | var {i j : Nat} {c : Sc} (hr : Root cs i j) (hc : cs[j]? = some c) (hk : c.k = 1) : Got cs i (.mk 1 j [] [])
 | part {i j : Nat} {c : Sc} {l : List Tm} (hr : Root cs i j) (hc : cs[j]? = some c) (hk : c.k ≠ 1) (hl : l.length = c.args.length) (ha : ∀ (q : Nat) a t, c.args[q]? = some a → l[q]? = some t → Got cs a t) : Got cs i (.mk c.k c.n c.s l)
def varAt (fr : List (Int × Nat)) (n : Int) : Int := ((mget fr n).getD 0 : Nat)
mutual
theorem got_free {cs : List Sc} {T : Nat → Tm} {fr : List (Int × Nat)} (hT : ∀ (i : Nat) c, cs[i]? = some c → c.k ≠ 1 → T i = .mk c.k c.n c.s (c.args.map T)) (hv : ∀ (i : Nat) c, cs[i]? = some c → c.k = 1 → ∃ n, T i = .mk 1 n [] [] ∧ varAt fr n = i)
    (h0 : ∀ (i : Nat) c, cs[i]? = some c → c.to = none ∧ ∀ a ∈ c.args, a < cs.length) : ∀ (t : Tm) (i : Nat), i < cs.length → T i = t → Got cs i (vmT (varAt fr) t)
 | .mk k n s l, i, hi, he => by
  have hc := List.getElem?_eq_getElem hi
  generalize cs[i] = c at hc
  obtain ⟨h1, h2⟩ := h0 i c hc
  by_cases hk : c.k = 1
  ·obtain ⟨m, e1, e2⟩ := hv i c hc hk
   rw [he] at e1
   injection e1 with q1 q2 q3 q4
   subst q1 q2 q3 q4
   rw [vmT, if_pos rfl, e2]
   exact .var (.here hc h1) hc hk
  ·have e1 := hT i c hc hk
   rw [he] at e1
   injection e1 with q1 q2 q3 q4
   subst q1 q2 q3
   rw [vmT, if_neg hk]
   refine .part (.here hc h1) hc hk (by rw [vmL_map, List.length_map, q4, List.length_map]) fun q a t ha ht => ?_
   have hm := List.mem_of_getElem? ha
   have hlq : l[q]? = some (T a) := by rw [q4, List.getElem?_map, ha]; rfl
   rw [vmL_map, List.getElem?_map, hlq] at ht
   injection ht with ht
   rw [← ht]
   exact got_freeL hT hv h0 l (T a) (List.mem_of_getElem? hlq) a (h2 a hm) rfl
theorem got_freeL {cs : List Sc} {T : Nat → Tm} {fr : List (Int × Nat)} (hT : ∀ (i : Nat) c, cs[i]? = some c → c.k ≠ 1 → T i = .mk c.k c.n c.s (c.args.map T)) (hv : ∀ (i : Nat) c, cs[i]? = some c → c.k = 1 → ∃ n, T i = .mk 1 n [] [] ∧ varAt fr n = i)
    (h0 : ∀ (i : Nat) c, cs[i]? = some c → c.to = none ∧ ∀ a ∈ c.args, a < cs.length) : ∀ (l : List Tm) (t : Tm), t ∈ l → ∀ (i : Nat), i < cs.length → T i = t → Got cs i (vmT (varAt fr) t)
 | [], t, ht => by cases ht
 | x :: r, t, ht => fun i hi he => by
  have hx := got_free hT hv h0 x
  have hr := got_freeL hT hv h0 r
  rcases List.mem_cons.1 ht with e | ht
  ·subst e
   exact hx i hi he
  ·exact hr t ht i hi he
end
mutual
def renT : Tm → List (Int × Int) → Tm × List (Int × Int)
 | .mk k n s l, m =>
  if k = 1 then
   match mget m n with
   | some a => (.mk 1 a s l, m)
   | none => (.mk 1 m.length s l, m ++ [(n, (m.length : Int))])
  else (.mk k n s (renL l m).1, (renL l m).2)
def renL : List Tm → List (Int × Int) → List Tm × List (Int × Int)
 | [], m => ([], m)
 | t :: r, m => ((renT t m).1 :: (renL r (renT t m).2).1, (renL r (renT t m).2).2)
end
structure NumOk (m : List (Int × Int)) : Prop where
 at' : ∀ (i : Nat) x, m[i]? = some x → x.2 = (i : Int)
 one : ∀ x ∈ m, ∀ y ∈ m, x.1 = y.1 → x.2 = y.2
theorem NumOk.inj {m : List (Int × Int)} (h : NumOk m) {x y : Int × Int} (hx : x ∈ m) (hy : y ∈ m) (he : x.2 = y.2) : x = y := by
 obtain ⟨i, hi⟩ := List.mem_iff_getElem?.1 hx
 obtain ⟨j, hj⟩ := List.mem_iff_getElem?.1 hy
 have h1 := h.at' i x hi
 have h2 := h.at' j y hj
 have : i = j := by omega
 subst this
 rw [hi] at hj
 injection hj
def numAt (m : List (Int × Int)) (n : Int) : Int := (mget m n).getD 0
theorem numAt_mem {m : List (Int × Int)} (h : NumOk m) {n a : Int} (hm : (n, a) ∈ m) : numAt m n = a := by
 unfold numAt
 cases hg : mget m n with
 | none => exact absurd rfl (mget_eq_none hg _ hm)
 | some b => exact h.one _ (mget_mem hg) _ hm rfl
def Known (m : List (Int × Int)) (n : Int) : Prop := ∃ a, (n, a) ∈ m
mutual
theorem renT_ok : ∀ (t : Tm) (m : List (Int × Int)), t.may = true → NumOk m → NumOk (renT t m).2 ∧ (∃ e, (renT t m).2 = m ++ e) ∧ (∀ m', NumOk m' → (∃ e, m' = (renT t m).2 ++ e) → (renT t m).1 = vmT (numAt m') t ∧ ∀ n ∈ vrT t, Known m' n)
 | .mk k n s l, m, hm, hN => by
  obtain ⟨m1, -, -⟩ := may_leaf hm
  by_cases h1 : k = 1
  ·subst h1
   obtain ⟨rfl, rfl⟩ := m1 rfl
   cases hg : mget m n with
   | some a =>
    have e : renT (.mk 1 n [] []) m = (.mk 1 a [] [], m) := by rw [renT, if_pos rfl, hg]
    rw [e]
    refine ⟨hN, ⟨[], by simp⟩, fun m' hN' hp => ?_⟩
    obtain ⟨e', rfl⟩ := hp
    have hmem := List.mem_append_left e' (mget_mem hg)
    refine ⟨?_, fun n' hn' => ?_⟩
    ·rw [vmT, if_pos rfl, numAt_mem hN' hmem]
     rfl
    ·have : n' = n := by simpa [vrT, vrL] using hn'
     subst this
     exact ⟨a, hmem⟩
   | none =>
    have e : renT (.mk 1 n [] []) m = (.mk 1 m.length [] [], m ++ [(n, (m.length : Int))]) := by rw [renT, if_pos rfl, hg]
    rw [e]
    have hno := mget_eq_none hg
    have hN2 : NumOk (m ++ [(n, (m.length : Int))]) := ⟨fun i x hx => by
     by_cases hi : i < m.length
     ·rw [List.getElem?_append_left hi] at hx
      exact hN.at' i x hx
     ·rw [List.getElem?_append_right (by omega)] at hx
      have hz : i - m.length = 0 := by have := (List.getElem?_eq_some_iff.1 hx).1; simpa using this
      rw [hz] at hx
      injection hx with hx
      subst hx
      simp only
      omega, fun x hx y hy exy => by
     rcases List.mem_append.1 hx with hx | hx
     ·rcases List.mem_append.1 hy with hy | hy
      ·exact hN.one x hx y hy exy
      ·rw [List.mem_singleton] at hy
       subst hy
       exact absurd exy (hno x hx)
     ·rw [List.mem_singleton] at hx
      subst hx
      rcases List.mem_append.1 hy with hy | hy
      ·exact absurd exy.symm (hno y hy)
      ·rw [List.mem_singleton] at hy
       subst hy
       rfl⟩
    refine ⟨hN2, ⟨_, rfl⟩, fun m' hN' hp => ?_⟩
    obtain ⟨e', rfl⟩ := hp
    have hmem : (n, (m.length : Int)) ∈ m ++ [(n, (m.length : Int))] ++ e' := List.mem_append_left _ (List.mem_append_right _ (List.mem_singleton.2 rfl))
    refine ⟨?_, fun n' hn' => ?_⟩
    ·rw [vmT, if_pos rfl, numAt_mem hN' hmem]
     rfl
    ·have : n' = n := by simpa [vrT, vrL] using hn'
     subst this
     exact ⟨_, hmem⟩
  ·have e : renT (.mk k n s l) m = (.mk k n s (renL l m).1, (renL l m).2) := by rw [renT, if_neg h1]
   rw [e]
   obtain ⟨h2, h3, h4⟩ := renL_ok l m (may_args hm) hN
   refine ⟨h2, h3, fun m' hN' hp => ?_⟩
   obtain ⟨g1, g2⟩ := h4 m' hN' hp
   refine ⟨by simp only; rw [vmT, if_neg h1, g1], fun n' hn' => ?_⟩
   refine g2 n' ?_
   simpa [vrT, h1] using hn'
theorem renL_ok : ∀ (l : List Tm) (m : List (Int × Int)), (∀ t ∈ l, t.may = true) → NumOk m → NumOk (renL l m).2 ∧ (∃ e, (renL l m).2 = m ++ e) ∧ (∀ m', NumOk m' → (∃ e, m' = (renL l m).2 ++ e) → (renL l m).1 = vmL (numAt m') l ∧ ∀ n ∈ vrL l, Known m' n)
 | [], m, _, hN => by
  rw [renL]
  exact ⟨hN, ⟨[], by simp⟩, fun m' _ _ => ⟨rfl, fun n hn => by simp [vrL] at hn⟩⟩
 | t :: r, m, hm, hN => by
  obtain ⟨h1, ⟨e1, h2⟩, h3⟩ := renT_ok t m (hm t (List.mem_cons_self ..)) hN
  obtain ⟨g1, ⟨e2, g2⟩, g3⟩ := renL_ok r (renT t m).2 (fun x hx => hm x (List.mem_cons_of_mem _ hx)) h1
  rw [renL]
  refine ⟨g1, ⟨e1 ++ e2, by simp only; rw [g2, h2, List.append_assoc]⟩, fun m' hN' hp => ?_⟩
  obtain ⟨e', hp⟩ := hp
  obtain ⟨q1, q2⟩ := h3 m' hN' ⟨e2 ++ e', by rw [hp, g2, List.append_assoc]⟩
  obtain ⟨r1, r2⟩ := g3 m' hN' ⟨e', hp⟩
  refine ⟨by simp only; rw [vmL, q1, r1], fun n hn => ?_⟩
  simp only [vrL, List.mem_append] at hn
  exact hn.elim (q2 n) (r2 n)
end
mutual
theorem vmT_comp (f g : Int → Int) : ∀ t : Tm, vmT g (vmT f t) = vmT (fun n => g (f n)) t
 | .mk k n s l => by
  rw [vmT, vmT, vmT, vmL_comp f g l]
  by_cases h : k = 1
  ·rw [if_pos h, if_pos h, if_pos h]
  ·rw [if_neg h, if_neg h, if_neg h]
theorem vmL_comp (f g : Int → Int) : ∀ l : List Tm, vmL g (vmL f l) = vmL (fun n => g (f n)) l
 | [] => rfl
 | t :: r => by rw [vmL, vmL, vmL, vmT_comp f g t, vmL_comp f g r]
end
mutual
theorem vmT_inj (f : Int → Int) : ∀ (x y : Tm), (∀ a ∈ vrT x, ∀ b ∈ vrT y, f a = f b → a = b) → vmT f x = vmT f y → x = y
 | .mk k n s l, .mk k' n' s' l', hf, h => by
  rw [vmT, vmT] at h
  injection h with h1 h2 h3 h4
  subst h1 h3
  have hl := vmL_inj f l l' (fun a ha b hb => hf a (by rw [vrT]; exact List.mem_append_right _ ha) b (by rw [vrT]; exact List.mem_append_right _ hb)) h4
  subst hl
  by_cases hk : k = 1
  ·rw [if_pos hk, if_pos hk] at h2
   have := hf n (by rw [vrT, if_pos hk]; simp) n' (by rw [vrT, if_pos hk]; simp) h2
   rw [this]
  ·rw [if_neg hk, if_neg hk] at h2
   rw [h2]
theorem vmL_inj (f : Int → Int) : ∀ (x y : List Tm), (∀ a ∈ vrL x, ∀ b ∈ vrL y, f a = f b → a = b) → vmL f x = vmL f y → x = y
 | [], [], _, _ => rfl
 | [], _ :: _, _, h => by rw [vmL, vmL] at h; cases h
 | _ :: _, [], _, h => by rw [vmL, vmL] at h; cases h
 | t :: r, t' :: r', hf, h => by
  rw [vmL, vmL] at h
  injection h with h1 h2
  rw [vmT_inj f t t' (fun a ha b hb => hf a (by rw [vrL]; exact List.mem_append_left _ ha) b (by rw [vrL]; exact List.mem_append_left _ hb)) h1,
   vmL_inj f r r' (fun a ha b hb => hf a (by rw [vrL]; exact List.mem_append_right _ ha) b (by rw [vrL]; exact List.mem_append_right _ hb)) h2]
end
mutual
theorem vmT_vars (f : Int → Int) : ∀ (t : Tm) (n : Int), n ∈ vrT t → f n ∈ vrT (vmT f t)
 | .mk k n s l, m, h => by
  rw [vrT] at h
  rw [vmT, vrT]
  rcases List.mem_append.1 h with h | h
  ·by_cases hk : k = 1
   ·rw [if_pos hk] at h ⊢
    rw [List.mem_singleton] at h
    subst h
    rw [if_pos hk]
    exact List.mem_append_left _ (List.mem_singleton.2 rfl)
   ·rw [if_neg hk] at h
    cases h
  ·exact List.mem_append_right _ (vmL_vars f l m h)
theorem vmL_vars (f : Int → Int) : ∀ (l : List Tm) (n : Int), n ∈ vrL l → f n ∈ vrL (vmL f l)
 | [], _, h => by rw [vrL] at h; cases h
 | t :: r, n, h => by
  rw [vrL] at h
  rw [vmL, vrL]
  rcases List.mem_append.1 h with h | h
  ·exact List.mem_append_left _ (vmT_vars f t n h)
  ·exact List.mem_append_right _ (vmL_vars f r n h)
end
mutual
theorem vmT_may (f : Int → Int) (hf : ∀ n, 0 ≤ f n) : ∀ t : Tm, t.may = true → (vmT f t).may = true
 | .mk k n s l, h => by
  rw [Tm.may, Bool.and_eq_true] at h
  rw [vmT, Tm.may, Bool.and_eq_true]
  refine ⟨?_, vmL_mays f hf l h.2⟩
  rw [vmL_map, List.length_map]
  by_cases hk : k = 1
  ·subst hk
   have h1 := h.1
   unfold mayP at h1 ⊢
   rw [if_pos rfl] at h1 ⊢
   have := of_decide_eq_true h1
   rw [if_pos rfl]
   exact decide_eq_true ⟨hf n, this.2⟩
  ·rw [if_neg hk]
   exact h.1
theorem vmL_mays (f : Int → Int) (hf : ∀ n, 0 ≤ f n) : ∀ l : List Tm, Tm.mays l = true → Tm.mays (vmL f l) = true
 | [], _ => rfl
 | t :: r, h => by
  rw [Tm.mays, Bool.and_eq_true] at h
  rw [vmL, Tm.mays, Bool.and_eq_true]
  exact ⟨vmT_may f hf t h.1, vmL_mays f hf r h.2⟩
end
theorem ren_same {x y : Tm} (hx : x.may = true) (hy : y.may = true) {f : Int → Int} (hf0 : ∀ n, 0 ≤ f n) (hf : ∀ a ∈ vrT x, ∀ b ∈ vrT y, f a = f b → a = b) :
    (renT (vmT f x) []).1 = (renT (vmT f y) (renT (vmT f x) []).2).1 ↔ x = y := by
 obtain ⟨h1, -, h3⟩ := renT_ok (vmT f x) [] (vmT_may f hf0 x hx) ⟨fun i x h => by simp at h, fun x h => by cases h⟩
 obtain ⟨g1, ⟨e, g2⟩, g3⟩ := renT_ok (vmT f y) (renT (vmT f x) []).2 (vmT_may f hf0 y hy) h1
 obtain ⟨q1, q2⟩ := h3 _ g1 ⟨e, g2⟩
 obtain ⟨r1, r2⟩ := g3 _ g1 ⟨[], by simp⟩
 rw [q1, r1, vmT_comp, vmT_comp]
 constructor
 ·refine vmT_inj _ x y fun a ha b hb hab => hf a ha b hb ?_
  obtain ⟨u, hu⟩ := q2 _ (vmT_vars f x a ha)
  obtain ⟨v, hv⟩ := r2 _ (vmT_vars f y b hb)
  rw [numAt_mem g1 hu, numAt_mem g1 hv] at hab
  have := g1.inj hu hv hab
  injection this
 ·rintro rfl
  rfl
structure PcAt (pb sb vb fb : Nat) (u : World) (need : Nat) (l : List (Int × Int)) : Prop where
 blk : u.heap[pb]? = some (.cells #[.pointer (some ⟨sb, 0, none⟩), .map (some vb), .map (some fb), .int .i64 (need : Nat)] 383 (0, 0))
 vars : M6 u vb []
 fresh : M6 u fb l
 ne : vb ≠ fb
section
variable {pb sb vb fb : Nat} {u u' : World} {need : Nat} {l : List (Int × Int)}
theorem PcAt.lt (h : PcAt pb sb vb fb u need l) : pb < u.heap.size := (Array.getElem?_eq_some_iff.1 h.blk).1
theorem PcAt.later (h : PcAt pb sb vb fb u need l) (hb : Below u.heap.size u u') : PcAt pb sb vb fb u' need l := ⟨(hb.block _ h.lt).trans h.blk, h.vars.later hb, h.fresh.later hb, h.ne⟩
theorem PcAt.apart (h : PcAt pb sb vb fb u need l) : pb ≠ vb ∧ pb ≠ fb := by
 refine ⟨fun e => ?_, fun e => ?_⟩
 ·obtain ⟨es, clock, h1, -⟩ := h.vars.map.blk
  rw [← e, h.blk] at h1
  cases h1
 ·obtain ⟨es, clock, h1, -⟩ := h.fresh.map.blk
  rw [← e, h.blk] at h1
  cases h1
def CntOut (pb sb vb fb : Nat) (u : World) (m : Nat) (need : Nat) (e : Ending) (u' : World) : Prop :=
 e = .returned (.bool true) ∧ (∃ need' l', PcAt pb sb vb fb u' need' l' ∧ need' ≤ need + m) ∧ Fr (fun k => k = pb ∨ k = fb) u u'
def CntC (pb sb vb fb : Nat) (n : Nat) : Prop := ∀ (t : Tm) (u : World) (x : TV) (need : Nat) (l : List (Int × Int)), t.size ≤ n → TermS u (TyB u 27) x t → PcAt pb sb vb fb u need l → t.may = true → (∀ n ∈ vrT t, ok6 n) → need + t.size ≤ 10000000 →
 Calls Tryz.prog 262 #[.pointer (some ⟨pb, 0, none⟩), tvV x] u (CntOut pb sb vb fb u t.size need)
end
theorem vrL_mem : ∀ {l : List Tm} {a : Tm} {n : Int}, a ∈ l → n ∈ vrT a → n ∈ vrL l
 | x :: r, a, n, ha, hn => by
  rw [vrL]
  rcases List.mem_cons.1 ha with rfl | ha
  ·exact List.mem_append_left _ hn
  ·exact List.mem_append_right _ (vrL_mem ha hn)
theorem may_len {k n : Int} {s : List UInt8} {l : List Tm} (h : (Tm.mk k n s l).may = true) : l.length ≤ 255 := by
 rw [Tm.may, Bool.and_eq_true] at h
 have h1 := h.1
 unfold mayP at h1
 repeat' split at h1
 all_goals first | (have := of_decide_eq_true h1; omega) | cases h1
theorem may_pos {n : Int} {s : List UInt8} {l : List Tm} (h : (Tm.mk 4 n s l).may = true) : 0 < l.length := by
 rw [Tm.may, Bool.and_eq_true] at h
 have h1 := h.1
 unfold mayP at h1
 rw [if_neg (by decide), if_neg (by decide), if_neg (by decide), if_pos rfl] at h1
 have := of_decide_eq_true h1
 omega
theorem sizes_dropP : ∀ (a : Nat) (l : List Tm), Tm.sizes (l.drop a) ≤ Tm.sizes l
 | 0, l => by simp
 | a + 1, [] => by simp
 | a + 1, t :: r => by
  have := sizes_dropP a r
  simp only [List.drop_succ_cons, Tm.sizes]
  omega
section
variable {pb sb vb fb : Nat} {u u' : World} {need : Nat} {l : List (Int × Int)}
set_option maxHeartbeats 8000000 in
theorem count_var (u : World) (x : TV) (hk : x.k = 1) (hl0 : x.len = 0) (hn : ok6 x.n) (hs : PcAt pb sb vb fb u need l) (hnd : need + 1 ≤ 10000000) :
    Calls Tryz.prog 262 #[.pointer (some ⟨pb, 0, none⟩), tvV x] u (CntOut pb sb vb fb u 1 need) := by
 obtain ⟨P, hP⟩ : ∃ P : Ending → World → Prop, P = CntOut pb sb vb fb u 1 need := ⟨_, rfl⟩
 rw [← hP]
 have HP := Lib.hid hP
 obtain ⟨k, n, s, A, len, c⟩ := x
 simp only at hk hl0 hn
 subst hk hl0
 obtain ⟨U, hU⟩ : ∃ U, U = u.alloc (.cells #[.int .i64 1, .int .i64 n, .string ⟨s.toArray⟩, .slice A 0 c] 27) := ⟨_, rfl⟩
 have hbU : Below u.heap.size u U := by rw [hU]; exact (Below.refl _ _).alloc (Nat.le_refl _) _
 have hz : U.heap[u.heap.size]? = some (.cells #[.int .i64 1, .int .i64 n, .string ⟨s.toArray⟩, .slice A 0 c] 27 (0, 0)) := by rw [hU]; exact heap_alloc_new _ _
 obtain ⟨z0, z1, z2, z3, -⟩ := four_at hz
 obtain ⟨p0, p1, p2, p3, pf⟩ := four_at (hs.later hbU).blk
 have hlU := (hs.later hbU).lt
 have hlz : u.heap.size < U.heap.size := (Array.getElem?_eq_some_iff.1 hz).1
 have hpu : pb < u.heap.size := hs.lt
 have k1 := ((hs.later hbU).vars.later (Below.refl _ _).drew).miss n hn
 have H := Lib.hid (hs.later hbU)
 have HB := Lib.hid hbU
 have HZ := Lib.hid hz
 clear hP hs hbU hz
 unfold tvV
 go_enter Tryz.func262, Tryz.ntmps262
 go_upto_region 1 with fail
 rw [← hU]
 clear hU
 go_upto_region 2 with fail
 go_region
 obtain ⟨V, hV⟩ : ∃ V, V = U.drew := ⟨_, rfl⟩
 have hbV : Below U.heap.size U V := by rw [hV]; exact (Below.refl _ _).drew
 rw [← hV]
 clear k1 p0 p1 p2 p3 pf z0 z1 z2 z3 hlU
 have HV := Lib.hid (H.out.later hbV)
 have hz : V.heap[u.heap.size]? = some (.cells #[.int .i64 1, .int .i64 n, .string ⟨s.toArray⟩, .slice A 0 c] 27 (0, 0)) := (hbV.block _ hlz).trans HZ.out
 obtain ⟨z0, z1, z2, z3, -⟩ := four_at hz
 obtain ⟨p0, p1, p2, p3, pf⟩ := four_at HV.out.blk
 have hlV := HV.out.lt
 have HBV := Lib.hid (below_then HB.out hbV)
 have hlz2 : u.heap.size < V.heap.size := (Array.getElem?_eq_some_iff.1 hz).1
 have HZV := Lib.hid hz
 clear hV hbV H HB hz hlz
 by_cases hg : ∃ a, mget l n = some a
 ·obtain ⟨a, hg⟩ := hg
  have k2 := (HV.out.fresh.later (Below.refl _ _).drew).hit n hn hg
  have HQ : Hid (P (.returned (.bool true)) V.drew) := Lib.hid (by
   rw [HP.out]
   exact ⟨rfl, ⟨need, l, HV.out.later (Below.refl _ _).drew, by omega⟩, Fr.of_below _ HBV.out.drew⟩)
  clear hg
  go_upto_region 5 with fail
  go_region
  go_wp2_with fail
  exact HQ.out
 ·have hg : mget l n = none := by
   cases h : mget l n with
   | none => rfl
   | some a => exact absurd ⟨a, h⟩ hg
  have k2 := (HV.out.fresh.later (Below.refl _ _).drew).lack n hn hg
  go_upto_region 5 with fail
  go_region
  obtain ⟨V2, hV2⟩ : ∃ V2, V2 = V.drew := ⟨_, rfl⟩
  have hbV : Below V.heap.size V V2 := by rw [hV2]; exact (Below.refl _ _).drew
  obtain ⟨w', k3, k4, k5, k6⟩ := ((HV.out.later hbV).fresh.later (Below.refl _ _).drew).put n hn (-1)
  have HV2 := Lib.hid (HV.out.later hbV)
  have hz2 : V2.heap[u.heap.size]? = some (.cells #[.int .i64 1, .int .i64 n, .string ⟨s.toArray⟩, .slice A 0 c] 27 (0, 0)) := (hbV.block _ hlz2).trans HZV.out
  rw [← hV2]
  clear hV2 k2 z0 z1 z2 z3 p0 p1 p2 p3 pf hlV
  obtain ⟨z0, z1, z2, z3, -⟩ := four_at hz2
  obtain ⟨p0, p1, p2, p3, pf⟩ := four_at HV2.out.blk
  have hlV := HV2.out.lt
  have hbw : w'.heap[pb]? = V2.heap[pb]? := k5.block pb hlV (fun e => HV2.out.apart.2 (Option.some.inj e))
  have hzf : u.heap.size ≠ fb := fun e => by
   obtain ⟨es, clock, h1, -⟩ := HV2.out.fresh.map.blk
   rw [← e, hz2] at h1
   cases h1
  have hzw : w'.heap[u.heap.size]? = V2.heap[u.heap.size]? := k5.block _ (Array.getElem?_eq_some_iff.1 hz2).1 (fun e => hzf (Option.some.inj e))
  have hbw2 := hbw.trans HV2.out.blk
  obtain ⟨a0, a1, a2, a3, -⟩ := four_at (hzw.trans hz2)
  obtain ⟨b0, b1, b2, b3, bf⟩ := four_at hbw2
  have hvw : M6 w' vb [] := HV2.out.vars.keep (k5.block _ HV2.out.vars.lt (fun e => HV2.out.ne (Option.some.inj e)))
  have hlw : pb < w'.heap.size := (Array.getElem?_eq_some_iff.1 hbw2).1
  have hlz3 : u.heap.size < w'.heap.size := (Array.getElem?_eq_some_iff.1 (hzw.trans hz2)).1
  have hadd : IntKind.i64.wrap ((need : Int) + 1) = (need : Int) + 1 := IntWalk.i64_in _ (by omega)
  have HQ : Hid (P (.returned (.bool true)) (w'.setCell ⟨pb, 3, none⟩ (.int .i64 ((need : Int) + 1)))) := Lib.hid (by
   rw [HP.out]
   have hap := HV2.out.apart
   refine ⟨rfl, ⟨need + 1, mput l n (-1), ⟨blk_put hbw2 _, hvw.keep (Below.heap_setCell _ _ _ _ (Ne.symm hap.1)), k4.keep (Below.heap_setCell _ _ _ _ (Ne.symm hap.2)), HV2.out.ne⟩, Nat.le_refl _⟩, ?_⟩
   exact ((Fr.of_below _ (below_then HBV.out hbV).drew).grown k5 fun g e => .inl (.inr (Option.some.inj e).symm)).setCell (p := ⟨pb, 3, none⟩) (.inl (.inl rfl)) _)
  clear k4 k5 k6 hbw hzf hzw hbw2 hvw hz2 hbV hg
  have hne1 : u.heap.size ≠ pb := by omega
  have hne2 : pb ≠ u.heap.size := by omega
  go_upto_region 8 with fail
  go_region
  go_wp2_with fail
  obtain ⟨W9, hW9⟩ : ∃ W, W = w'.setCell ⟨pb, 3, none⟩ (.int .i64 ((need : Int) + 1)) := ⟨_, rfl⟩
  rw [← hW9] at HQ ⊢
  clear hW9
  go_loopg [58] 0 (fun _ v wr => v = .int .i64 0 ∧ W9 = wr)
  case atStart => exact ⟨rfl, rfl⟩
  case round =>
   obtain ⟨rfl, rfl⟩ := hrel
   go_wp2_with fail
   exact HQ.out
set_option maxHeartbeats 8000000 in
theorem count_comp (m : Nat) (hC : CntC pb sb vb fb m) (u : World) (x : TV) (t : Tm) (hsz : t.size ≤ m + 1) (hk : x.k ≠ 1) (hx : TermS u (TyB u 27) x t) (hs : PcAt pb sb vb fb u need l) (hmay : t.may = true) (hv : ∀ n ∈ vrT t, ok6 n) (hnd : need + t.size ≤ 10000000) :
    Calls Tryz.prog 262 #[.pointer (some ⟨pb, 0, none⟩), tvV x] u (CntOut pb sb vb fb u t.size need) := by
 obtain ⟨P, hP⟩ : ∃ P : Ending → World → Prop, P = CntOut pb sb vb fb u t.size need := ⟨_, rfl⟩
 rw [← hP]
 have HP := Lib.hid hP
 have HX := Lib.hid hx
 cases hx with
 | mk _ args xs h1 h2 h3 hc ht =>
 obtain ⟨k, n, s, A, len, c⟩ := x
 simp only at hk h1 h2 h3 hc ht HP HX hsz hmay hv hnd hP
 have HA : Hid ((∀ (i : Nat) a, args[i]? = some a → a.may = true ∧ (∀ n ∈ vrT a, ok6 n)) ∧ Tm.sizes args ≤ m ∧ need + 1 + Tm.sizes args ≤ 10000000 ∧ args.length = len ∧ len ≤ 255) := Lib.hid (by
  have hsz : 1 + Tm.sizes args ≤ m + 1 := by simpa only [Tm.size] using hsz
  have hnd : need + (1 + Tm.sizes args) ≤ 10000000 := by simpa only [Tm.size] using hnd
  refine ⟨fun i a ha => ⟨may_args hmay a (List.mem_of_getElem? ha), fun n hn => hv n ?_⟩, by omega, by omega, h2, ?_⟩
  ·rw [vrT]
   exact List.mem_append_right _ (vrL_mem (List.mem_of_getElem? ha) hn)
  ·rw [← h2]
   exact may_len hmay)
 have HXS := Lib.hid (And.intro h1 (And.intro hc ht))
 have HM := Lib.hid hC
 have hpu : pb < u.heap.size := hs.lt
 have H0 := Lib.hid hs
 obtain ⟨U, hU⟩ : ∃ U, U = u.alloc (.cells #[.int .i64 k, .int .i64 n, .string ⟨s.toArray⟩, .slice A len c] 27) := ⟨_, rfl⟩
 have hbU : Below u.heap.size u U := by rw [hU]; exact (Below.refl _ _).alloc (Nat.le_refl _) _
 have hz : U.heap[u.heap.size]? = some (.cells #[.int .i64 k, .int .i64 n, .string ⟨s.toArray⟩, .slice A len c] 27 (0, 0)) := by rw [hU]; exact heap_alloc_new _ _
 obtain ⟨z0, z1, z2, z3, -⟩ := four_at hz
 obtain ⟨p0, p1, p2, p3, pf⟩ := four_at (hs.later hbU).blk
 have hlU := (hs.later hbU).lt
 have hlz : u.heap.size < U.heap.size := (Array.getElem?_eq_some_iff.1 hz).1
 have b1 : (k == 1) = false := beq_eq_false_iff_ne.2 hk
 have hne1 : u.heap.size ≠ pb := by omega
 have hne2 : pb ≠ u.heap.size := by omega
 have hadd : IntKind.i64.wrap ((need : Int) + 1) = (need : Int) + 1 := IntWalk.i64_in _ (by omega)
 have hlen255 := HA.out.2.2.2.2
 have HI0 : Hid (PcAt pb sb vb fb (U.setCell ⟨pb, 3, none⟩ (.int .i64 ((need : Int) + 1))) (need + 1) l ∧ Fr (fun k => k = pb ∨ k = fb) u (U.setCell ⟨pb, 3, none⟩ (.int .i64 ((need : Int) + 1)))) := Lib.hid (by
  have h := hs.later hbU
  have hap := h.apart
  exact ⟨⟨blk_put h.blk _, h.vars.keep (Below.heap_setCell _ _ _ _ (Ne.symm hap.1)), h.fresh.keep (Below.heap_setCell _ _ _ _ (Ne.symm hap.2)), h.ne⟩, (Fr.of_below _ hbU).setCell (p := ⟨pb, 3, none⟩) (.inl (.inl rfl)) _⟩)
 clear hP hk h1 h2 hc ht hs hmay hv hsz hnd hC hbU hz
 unfold tvV
 go_enter Tryz.func262, Tryz.ntmps262
 go_upto_region 1 with fail
 rw [← hU]
 clear hU
 go_wp2_with fail
 obtain ⟨W9, hW9⟩ : ∃ W, W = U.setCell ⟨pb, 3, none⟩ (.int .i64 ((need : Int) + 1)) := ⟨_, rfl⟩
 rw [← hW9] at HI0 ⊢
 clear hW9 z0 z1 z2 z3 p0 p1 p2 p3 pf hlU hlz hne1 hne2 b1
 go_loopw [58] (fun i wr => ∃ (q need' : Nat) (l' : List (Int × Int)), i = .int .i64 (q : Nat) ∧ q ≤ len ∧ Hid (PcAt pb sb vb fb wr need' l' ∧ Fr (fun k => k = pb ∨ k = fb) u wr ∧ need' + Tm.sizes (args.drop q) ≤ need + 1 + Tm.sizes args)) (fun i _ => len - (intOf i).toNat)
 case atStart => exact ⟨0, need + 1, l, rfl, Nat.zero_le _, Lib.hid ⟨HI0.out.1, HI0.out.2, by simp⟩⟩
 case round =>
  obtain ⟨q, need', l', rfl, hq, HI⟩ := hrel
  clear HI0
  by_cases hlt : q < len
  ·obtain ⟨a, ha⟩ : ∃ a, args[q]? = some a := ⟨_, List.getElem?_eq_getElem (by rw [HA.out.2.2.2.1]; exact hlt)⟩
   obtain ⟨y, hy⟩ : ∃ y, xs[q]? = some y := ⟨_, List.getElem?_eq_getElem (by rw [HXS.out.1]; exact hlt)⟩
   obtain ⟨b, off, rfl, hb, hcc⟩ := HXS.out.2.1 q y hy
   have hkT : ∀ b, TyB u 27 b → wr.heap[b]? = u.heap[b]? := fun b hb => HI.out.2.1.block b hb.lt (fun e => by
    rcases e with e | e
    ·exact hb.ne ⟨_, H0.out.blk⟩ (by decide) e
    ·exact H0.out.fresh.map.ne hb e.symm)
   have hcell : ∀ (j : Nat) v, (encTV y)[j]? = some v → wr.cell? ⟨b, off + q * 4 + j, none⟩ = some v := fun j v hv => (World.cell?_of_block (a := ⟨b, off + q * 4 + j, none⟩) (hkT b hb)).trans (hcc j v hv)
   have y0 := hcell 0 _ rfl
   have y1 := hcell 1 _ rfl
   have y2 := hcell 2 _ rfl
   have y3 := hcell 3 _ rfl
   rw [Nat.add_zero] at y0
   have hbl : b < wr.heap.size := Nat.lt_of_lt_of_le hb.lt HI.out.2.1.size
   have HT := Lib.hid ((HXS.out.2.2 q y a hy ha).keep (w' := wr) (S' := TyB wr 27) (fun b hb => hb.keep (hkT b hb)) hkT)
   obtain ⟨V, hV⟩ : ∃ V, V = wr.alloc (.cells #[.int .i64 y.k, .int .i64 y.n, .string ⟨y.s.toArray⟩, .slice y.A y.len y.cap] 27) := ⟨_, rfl⟩
   have hbV : Below wr.heap.size wr V := by rw [hV]; exact (Below.refl _ _).alloc (Nat.le_refl _) _
   have hzV : V.heap[wr.heap.size]? = some (.cells #[.int .i64 y.k, .int .i64 y.n, .string ⟨y.s.toArray⟩, .slice y.A y.len y.cap] 27 (0, 0)) := by rw [hV]; exact heap_alloc_new _ _
   obtain ⟨v0, v1, v2, v3, -⟩ := four_at hzV
   have hlt1 : (q : Int) < (len : Int) := by omega
   have hge : (0 : Int) ≤ (q : Int) := by omega
   have hwq : IntKind.i64.wrap ((q : Int) + 1) = (q : Int) + 1 := IntWalk.i64_in _ (by omega)
   have HTV : Hid (TermS V (TyB V 27) y a) := Lib.hid (HT.out.keep (fun b hb => hb.keep (hbV.block b hb.lt)) fun b hb => hbV.block b hb.lt)
   have HBV := Lib.hid hbV
   have HAQ := Lib.hid ha
   have HSZ : Hid (a.size + Tm.sizes (args.drop (q + 1)) = Tm.sizes (args.drop q)) := Lib.hid (by
    obtain ⟨hl, he⟩ := List.getElem?_eq_some_iff.1 ha
    rw [List.drop_eq_getElem_cons hl, he, Tm.sizes])
   clear hcc hkT hcell hy ha hb hzV hbV
   go_upto_region 13 with fail
   rw [← hV]
   clear hV
   go_wp2_with fail
   refine (HM.out a V y need' l' (by have h1 := HA.out.2.1; have h2 := HSZ.out; have h3 := sizes_dropP q args; omega) HTV.out (HI.out.1.later HBV.out) (HA.out.1 q a HAQ.out).1 (HA.out.1 q a HAQ.out).2 (by have h1 := HSZ.out; have h2 := HI.out.2.2; have h3 := HA.out.2.2.1; omega)).mono ?_
   rintro e W5 ⟨rfl, ⟨n5, l5, h5, h6⟩, hf5⟩
   have HN := Lib.hid (And.intro h5 (And.intro h6 ((HI.out.2.1.trans (Fr.of_below _ HBV.out)).trans hf5)))
   clear h5 h6 hf5 y0 y1 y2 y3 v0 v1 v2 v3 hbl
   go_wp2_with fail
   go_roundw
   case rel => exact ⟨q + 1, n5, l5, rfl, by omega, Lib.hid ⟨HN.out.1, HN.out.2.2, by have h1 := HSZ.out; have h2 := HI.out.2.2; have h3 := HN.out.2.1; omega⟩⟩
   case measure =>
    simp only [intOf]
    omega
  ·obtain rfl : q = len := by omega
   have hng : ¬ (q : Int) < (q : Int) := by omega
   have HQ : Hid (P (.returned (.bool true)) wr) := Lib.hid (by
    rw [HP.out]
    refine ⟨rfl, ⟨need', l', HI.out.1, ?_⟩, HI.out.2.1⟩
    have := HI.out.2.2
    simp only [Tm.size]
    omega)
   clear hlt
   go_wp2_with fail
   exact HQ.out
theorem count_all (pb sb vb fb : Nat) : ∀ n, CntC pb sb vb fb n
 | 0 => fun t u x need l hs _ _ _ _ _ => by
  obtain ⟨k, n, s, l⟩ := t
  simp only [Tm.size] at hs
  omega
 | n + 1 => fun t u x need l hs hx h hm hv hnd => by
  by_cases hk : x.k = 1
  ·have H : t.size = 1 ∧ x.len = 0 ∧ ok6 x.n := by
    cases hx with
    | mk _ args xs h1 h2 h3 hc ht =>
     obtain ⟨m1, -, -⟩ := may_leaf hm
     obtain ⟨-, rfl⟩ := m1 hk
     refine ⟨by simp [Tm.size, Tm.sizes], h2.symm, hv _ ?_⟩
     rw [vrT, if_pos hk]
     exact List.mem_append_left _ (List.mem_singleton.2 rfl)
   rw [H.1] at hnd ⊢
   exact count_var u x hk H.2.1 H.2.2 h hnd
  ·exact count_comp n (count_all pb sb vb fb n) u x t hs hk hx h hm hv hnd
end
end Go.Proofs.YtjdnigepnfeboaaGreatDoor
namespace Go.Proofs.YtjdnigepnfeboaaGreatDoor
open Go.RowKit Go.Maps
open Go.MapKept (Stamped)
section
variable {P : Program} {w w' : World} {κ ν : Type} {ek : κ → Value} {ev : ν → Value} {l left : List (κ × ν)} {b r : Nat}
structure RangeAt (w : World) (r b : Nat) (ek : κ → Value) (ev : ν → Value) (l left : List (κ × ν)) : Prop where
 it : ∃ es clock seen, w.heap[b]? = some (.map es clock) ∧ es.toList.map (fun e => (e.key, e.val)) = l.map (fun x => (ek x.1, ev x.2)) ∧ Stamped es clock ∧
  w.heap[r]? = some (.mapIter (some b) clock seen clock) ∧ (es.toList.filter (fun e => !seen.contains e.born)).map (fun e => (e.key, e.val)) = left.map (fun x => (ek x.1, ev x.2)) ∧
  (seen.isEmpty = true ∨ es.isEmpty = false)
theorem RangeAt.lt (h : RangeAt w r b ek ev l left) : b < w.heap.size ∧ r < w.heap.size := by
 obtain ⟨es, clock, seen, hb, _, _, hr, _⟩ := h.it
 exact ⟨(Array.getElem?_eq_some_iff.1 hb).1, (Array.getElem?_eq_some_iff.1 hr).1⟩
theorem RangeAt.ne (h : RangeAt w r b ek ev l left) : r ≠ b := by
 obtain ⟨es, clock, seen, hb, _, _, hr, _⟩ := h.it
 rintro rfl
 rw [hb] at hr
 cases hr
theorem RangeAt.keep (h : RangeAt w r b ek ev l left) (h1 : w'.heap[b]? = w.heap[b]?) (h2 : w'.heap[r]? = w.heap[r]?) : RangeAt w' r b ek ev l left := ⟨by rw [h1, h2]; exact h.it⟩
theorem MapAt.range {t kt et : TypeId} (ht : P.underlying t = some (.map kt et)) (h : MapAt w b ek ev l) :
    ∃ w', (Instr.range t (.map (some b))).run P w = .ok (.pointer (some ⟨w.heap.size, 0, none⟩)) w' ∧ RangeAt w' w.heap.size b ek ev l l ∧ Below w.heap.size w w' := by
 obtain ⟨es, clock, hb, hl, hs⟩ := h.blk
 have hg := MapKept.run_getObj_map (P := P) hb
 have hlt := h.lt
 refine ⟨w.alloc (.mapIter (some b) clock #[] clock), ?_, ⟨es, clock, #[], ?_, hl, hs, heap_alloc_new w _, ?_, .inl rfl⟩, (Below.refl _ _).alloc (Nat.le_refl _) _⟩
 ·simp [Instr.range, run_underlying ht, hg, Result.andThen]
 ·rw [Below.heap_alloc _ _ _ hlt]; exact hb
 ·rw [List.filter_eq_self.2 (by simp)]
  exact hl
theorem run_getObj_iter {o : Obj} {m : Option Nat} {a : Nat} {s : Array Nat} {c : Nat} (hr : w.heap[r]? = some o) (ho : o = .mapIter m a s c) : (getObj r).run P w = .ok o w := by
 subst ho
 simp [getObj, Sem.run, hr]
theorem run_mapNext (P : Program) (w : World) (n : Nat) (hn : 0 < n) : ∃ j w1, (choose (.mapNext n)).run P w = .ok j w1 ∧ j < n ∧ w1.heap = w.heap ∧ w1.os = w.os ∧ w1.tape = w.tape ∧ w1.output = w.output ∧ (n = 1 → w1 = w) := by
 by_cases h1 : n ≤ 1
 ·exact ⟨0, w, by simp [choose, Sem.run, Question.forced, h1], hn, rfl, rfl, rfl, rfl, fun _ => rfl⟩
 ·exact ⟨(Question.mapNext n).cut (w.tape w.drawn (.mapNext n)), { w with drawn := w.drawn + 1 }, by simp [choose, Sem.run, Question.forced, h1], Nat.mod_lt _ hn, rfl, rfl, rfl, rfl, fun e => absurd e (by omega)⟩
theorem next_facts {es : Array MapEntry} {clock : Nat} {seen : Array Nat} (hs : Stamped es clock) (hse : seen.isEmpty = true ∨ es.isEmpty = false) :
    (!seen.isEmpty && !es.isEmpty && es.all (fun e => decide (e.born ≥ clock))) = false ∧
    (es.filter (fun e => !seen.contains e.born)).filter (fun e => decide (e.born < clock)) = es.filter (fun e => !seen.contains e.born) ∧
    (es.filter (fun e => !seen.contains e.born)).filter (fun e => decide (e.born ≥ clock)) = #[] := by
 have hb : ∀ e ∈ es, e.born < clock := fun e he => hs.1 e (by simpa using he)
 refine ⟨?_, ?_, ?_⟩
 ·rcases hse with h | h
  ·simp [h]
  ·have hne : es.size ≠ 0 := by
    intro e
    rw [Array.isEmpty_iff_size_eq_zero.2 e] at h
    cases h
   have h0 : ¬ (clock ≤ es[0].born) := by
    have := hb es[0] (Array.getElem_mem _)
    omega
   have : (es.all (fun e => decide (e.born ≥ clock))) = false := by
    rw [Bool.eq_false_iff]
    intro ht
    rw [Array.all_eq_true] at ht
    have := ht 0 (by omega)
    simp at this
    exact h0 this
   rw [this]
   simp
 ·apply Array.filter_eq_self.2
  intro e he
  have := hb e (Array.mem_filter.1 he).1
  simpa using this
 ·apply Array.filter_eq_empty_iff.2
  intro e he
  have := hb e (Array.mem_filter.1 he).1
  simp
  exact this
theorem RangeAt.over {ty : TypeId} (h : RangeAt w r b ek ev l []) : (Instr.next (.pointer (some ⟨r, 0, none⟩)) false ty).run P w = .ok (.tuple #[.bool false]) w := by
 obtain ⟨es, clock, seen, hb, hl, hs, hr, hleft, hse⟩ := h.it
 have hg := MapKept.run_getObj_map (P := P) hb
 have hgr := run_getObj_iter (P := P) hr rfl
 obtain ⟨f1, f2, f3⟩ := next_facts hs hse
 have h0 : es.filter (fun e => !seen.contains e.born) = #[] := by
  apply Array.ext'
  rw [Array.toList_filter]
  simpa using hleft
 rw [h0] at f2 f3
 simp only [Instr.next, Sem.run_bind, hgr, hg, Result.andThen_ok, f1, h0, f2, f3]
 simp [Question.forced]
theorem RangeAt.next {ty : TypeId} (h : RangeAt w r b ek ev l left) (hne : left ≠ []) :
    ∃ i x w', (Instr.next (.pointer (some ⟨r, 0, none⟩)) false ty).run P w = .ok (.tuple #[.bool true, ek x.1, ev x.2]) w' ∧ left[i]? = some x ∧ RangeAt w' r b ek ev l (left.eraseIdx i) ∧ w.grownBy w' (some r) ∧ w'.heap.size = w.heap.size ∧
     (Instr.entry (.pointer (some ⟨r, 0, none⟩))).run P w' = .ok (.tuple #[ek x.1, ev x.2]) w' := by
 obtain ⟨es, clock, seen, hb, hl, hs, hr, hleft, hse⟩ := h.it
 have hg := MapKept.run_getObj_map (P := P) hb
 have hgr := run_getObj_iter (P := P) hr rfl
 obtain ⟨f1, f2, f3⟩ := next_facts hs hse
 generalize hL : es.filter (fun e => !seen.contains e.born) = L at f2 f3
 have hLl : L.toList.map (fun e => (e.key, e.val)) = left.map (fun x => (ek x.1, ev x.2)) := by rw [← hL, Array.toList_filter]; exact hleft
 have hsz : L.size = left.length := by simpa using congrArg List.length hLl
 have hpos : 0 < L.size := by rw [hsz]; exact List.length_pos_iff.2 hne
 have hem : L.isEmpty = false := by
  cases he : L.isEmpty
  ·rfl
  ·have := Array.isEmpty_iff_size_eq_zero.1 he
   omega
 obtain ⟨j, w1, hch, hj, e1, e2, e3, e4, _⟩ := run_mapNext P w L.size hpos
 have hrl : r < w1.heap.size := by rw [e1]; exact h.lt.2
 have hr1 : w1.heap[r]? = some (.mapIter (some b) clock seen clock) := by rw [e1]; exact hr
 have hset : (setObj r (.mapIter (some b) clock (seen.push L[j].born) clock)).run P w1 = .ok () { w1 with heap := w1.heap.setIfInBounds r (.mapIter (some b) clock (seen.push L[j].born) clock) } := by
  simp [setObj, Sem.run, hr1]
 have hLj : L.toList[j]? = some L[j] := by simp [hj]
 obtain ⟨x, hx, hk, hv⟩ := entry_at hLl hLj
 refine ⟨j, x, { w1 with heap := w1.heap.setIfInBounds r (.mapIter (some b) clock (seen.push L[j].born) clock) }, ?_, hx, ⟨es, clock, seen.push L[j].born, ?_, hl, hs, by simp [hrl], ?_, .inr ?_⟩, ?_, by simp [e1], ?_⟩
 ·simp only [Instr.next, Sem.run_bind, hgr, hg, Result.andThen_ok, f1, hL, f2, f3]
  have hcand : ((if L.isEmpty = true then #[none] else #[]) ++ Array.map some (L ++ #[])) = L.map some := by simp [hem]
  rw [hcand]
  simp only [Array.size_map]
  simp only [Bool.false_eq_true, if_false, Sem.run_bind, hch, Result.andThen_ok]
  simp [hj, hset, hk, hv, Result.andThen]
 ·rw [show ({ w1 with heap := w1.heap.setIfInBounds r (.mapIter (some b) clock (seen.push L[j].born) clock) } : World).heap = w1.heap.setIfInBounds r (.mapIter (some b) clock (seen.push L[j].born) clock) from rfl]
  rw [Array.getElem?_setIfInBounds_ne h.ne, e1]
  exact hb
 ·have hnd : (L.toList.map (·.born)).Nodup := by
   rw [← hL, Array.toList_filter]
   exact List.Nodup.sublist (List.Sublist.map _ List.filter_sublist) hs.2.1
  have hflt : es.toList.filter (fun e => !(seen.push L[j].born).contains e.born) = L.toList.eraseIdx j := by
   have h1 : es.toList.filter (fun e => !(seen.push L[j].born).contains e.born) = L.toList.filter (fun e => decide (e.born ≠ L[j].born)) := by
    have hLt : L.toList = es.toList.filter (fun e => !seen.contains e.born) := by rw [← hL, Array.toList_filter]
    generalize L[j].born = bj
    rw [hLt, List.filter_filter]
    congr 1
    funext e
    rw [Array.contains_push]
    by_cases hbj : e.born = bj <;> simp [hbj]
   rw [h1]
   have h2 := filter_ne_of_nodup (l := L.toList.map (fun e => (e.born, e))) (by rw [List.map_map]; exact hnd) (j := j) (x := (L[j].born, L[j])) (by simp [hj])
   have h3 := congrArg (List.map (·.2)) h2
   rw [MapKept_eraseIdx_map] at h3
   simp only [mdel, List.map_map] at h3
   rw [List.filter_map, List.map_map] at h3
   simpa [Function.comp_def] using h3
  rw [hflt, MapKept_eraseIdx_map, MapKept_eraseIdx_map, hLl]
 ·cases he : es.isEmpty
  ·rfl
  ·have h5 := Array.isEmpty_iff_size_eq_zero.1 he
   have h6 : L.size ≤ es.size := by rw [← hL]; exact Array.size_filter_le
   omega
 ·refine ⟨e2, e3, e4, by simp [e1], fun k _ hk' => ?_⟩
  have : r ≠ k := fun e => hk' (by rw [e])
  simp [this, e1]
 ·rw [← hk, ← hv]
  refine Go.run_entry_at _ r b clock seen es clock L[j] (by simp [hrl]) ?_ ?_ hs.2.1
  ·rw [show ({ w1 with heap := w1.heap.setIfInBounds r (.mapIter (some b) clock (seen.push L[j].born) clock) } : World).heap = w1.heap.setIfInBounds r (.mapIter (some b) clock (seen.push L[j].born) clock) from rfl]
   rw [Array.getElem?_setIfInBounds_ne h.ne, e1]
   exact hb
  ·have hm : ∀ y ∈ L.toList, y ∈ es.toList := by
    intro y hy
    rw [← hL, Array.toList_filter] at hy
    exact (List.mem_filter.1 hy).1
   exact hm _ (by simp)
end
end Go.Proofs.YtjdnigepnfeboaaGreatDoor
namespace Go.Proofs.YtjdnigepnfeboaaGreatDoor
open Go.RowKit
section
variable {P : Program} {α : Type}
theorem wpList_row_lies {ops : Array Oper} {rest : List Oper} {o : Oper} {a : Act} {Q : Exit → Act → World → Prop} (hgd : o.guard = none) (s x : Operand) (t : TypeId)
    (ho : o.op = .call { callee := .builtin .append, args := #[s, x], argTypes := #[t, t] }) (w : World) (B : Nat)
    (e : TypeId) (i : TypeInfo) (z : Value) (sz bytes : Nat) (enc : α → List Value) (ht : P.underlying t = some (.slice e)) (hi : P.info? e = some i) (hz : i.zero = some z)
    (hsize : i.size = sz) (hby : i.bytes = bytes) (hzs : z.cells.size = sz) (hsz : 0 < sz) (henc : ∀ x, (enc x).length = sz) (h1 : ∀ x, ∀ u ∈ enc x, u.oneCell' = true)
    (v : Value) (l : List α) (y : α) (hs : a.eval s = v) (h : Row w B e sz enc v l)
    (g cap : Nat) (hx : a.eval x = .slice (some ⟨g, 0, none⟩) 1 cap) (hnews : ∀ j u, (enc y)[j]? = some u → w.cell? ⟨g, j, none⟩ = some u)
    (h63 : l.length + 1 ≤ maxLen) (hbytes : (l.length + 1) * bytes ≤ 140737488355328) (hbase : B ≤ w.heap.size)
    (hK : ∀ g' cap' w', Row w' B e sz enc (.slice (some ⟨g', 0, none⟩) (l.length + 1) cap') (l ++ [y]) → w.grownBy w' v.ownBlock → (v.ownBlock = some g' ∨ g' = w.heap.size) → wpList P ops Q rest (a.put o.dst (.slice (some ⟨g', 0, none⟩) (l.length + 1) cap')) w') : wpList P ops Q (o :: rest) a w := by
 refine wpList_append_lies w hgd s x t ho B e i z sz bytes ht hi hz hsize hby hzs hsz v l.length (l.flatMap enc) hs h.own ⟨g, 0, none⟩ 1 cap (enc y) hx (by rw [henc, Nat.one_mul]) ?_ (h1 y) (by omega) h63 hbytes hbase w.heap.size rfl ?_
 ·intro j u hu
  have : (⟨g, 0, none⟩ : Addr).add j = ⟨g, j, none⟩ := by unfold Addr.add; split <;> simp_all
  rw [this]
  exact hnews j u hu
 ·intro g' cap' w' h2 h3 h4 _
  refine hK g' cap' w' ⟨?_⟩ h3 h4
  rw [List.flatMap_append, List.length_append]
  simpa using h2
end
end Go.Proofs.YtjdnigepnfeboaaGreatDoor
namespace Go.Proofs.YtjdnigepnfeboaaGreatDoor
open Go.RowKit
set_option maxRecDepth 100000
theorem encTV_inj {x y : TV} (h : ∀ j : Nat, j < 4 → (encTV x)[j]? = (encTV y)[j]?) : x = y := by
 obtain ⟨k, n, s, A, l, c⟩ := x
 obtain ⟨k', n', s', A', l', c'⟩ := y
 have h0 := h 0 (by omega)
 have h1 := h 1 (by omega)
 have h2 := h 2 (by omega)
 have h3 := h 3 (by omega)
 simp [encTV] at h0 h1 h2 h3
 obtain ⟨rfl, rfl, rfl⟩ := h3
 subst h0 h1 h2
 rfl
structure Recopy (w w' : World) (pb po : Nat) (A' : Option Addr) (g n c : Nat) (y : TV) : Prop where
 at' : ∀ (j : Nat) u, (encTV y)[j]? = some u → w.cell? ⟨pb, po + j, none⟩ = some u
 len : y.len = n
 old : ∀ (b o : Nat) v, (b = pb → o ≠ po + 3) → w.cell? ⟨b, o, none⟩ = some v → w'.cell? ⟨b, o, none⟩ = some v
 new : w'.cell? ⟨pb, po + 3, none⟩ = some (.slice A' n c)
 at0 : 0 < n → A' = some ⟨g, 0, none⟩
 copy : ∀ (b off j : Nat) v, y.A = some ⟨b, off, none⟩ → j < n * 4 → w.cell? ⟨b, off + j, none⟩ = some v → w'.cell? ⟨g, j, none⟩ = some v
theorem Recopy.cell {w w' : World} {pb po : Nat} {A' : Option Addr} {g n c : Nat} {y : TV} (h : Recopy w w' pb po A' g n c y) (b o : Nat) (z : TV) (hz : ∀ (j : Nat) u, (encTV z)[j]? = some u → w.cell? ⟨b, o + j, none⟩ = some u) :
    (b = pb ∧ o = po ∧ z = y) ∨ ∀ (j : Nat) u, (encTV z)[j]? = some u → w'.cell? ⟨b, o + j, none⟩ = some u := by
 by_cases he : b = pb ∧ o = po
 ·obtain ⟨rfl, rfl⟩ := he
  refine .inl ⟨rfl, rfl, encTV_inj fun j hj => ?_⟩
  have h1 : (encTV z)[j]? = some (encTV z)[j] := List.getElem?_eq_getElem (by rw [encTV_len]; exact hj)
  have h2 : (encTV y)[j]? = some (encTV y)[j] := List.getElem?_eq_getElem (by rw [encTV_len]; exact hj)
  have h3 := hz j _ h1
  have h4 := h.at' j _ h2
  rw [h1, h2, ← h3, ← h4]
 ·refine .inr fun j u hu => h.old b (o + j) u (fun e1 e2 => ?_) (hz j u hu)
  have h3 := hz j u hu
  subst e1
  have h4 := h.at' 3 _ rfl
  rw [← e2, h3] at h4
  injection h4 with h4
  subst h4
  obtain _ | _ | _ | _ | j := j
  ·simp [encTV] at hu
  ·simp [encTV] at hu
  ·simp [encTV] at hu
  ·exact he ⟨rfl, by omega⟩
  ·simp [encTV] at hu
theorem Recopy.term {w w' : World} {pb po g n c : Nat} {A' : Option Addr} {y : TV} (h : Recopy w w' pb po A' g n c y) {S S' : Nat → Prop} (hS : ∀ b, S b → S' b) (hg : 0 < n → S' g) :
    ∀ (m : Nat) (t : Tm), t.size ≤ m → (∀ x, TermS w S x t → TermS w' S' x t) ∧ (TermS w S y t → TermS w' S' { y with A := A', cap := c } t)
 | 0, .mk k n s l, hm => by simp only [Tm.size] at hm; omega
 | m + 1, t, hm => by
  have ih : ∀ (i : Nat) (ti : Tm), t.args[i]? = some ti → (∀ x, TermS w S x ti → TermS w' S' x ti) ∧ (TermS w S y ti → TermS w' S' { y with A := A', cap := c } ti) := fun i ti hi => by
   refine Recopy.term h hS hg m ti ?_
   have h1 : ti.size ≤ Tm.sizes t.args := by
    have : ∀ (l : List Tm) (q : Tm), q ∈ l → q.size ≤ Tm.sizes l := by
     intro l
     induction l with
     | nil => intro q hq; cases hq
     | cons a r ihr =>
      intro q hq
      rw [Tm.sizes]
      rcases List.mem_cons.1 hq with rfl | hq
      ·omega
      ·have := ihr q hq; omega
    exact this _ _ (List.mem_of_getElem? hi)
   obtain ⟨k, n, s, l⟩ := t
   have h2 : 1 + Tm.sizes l ≤ m + 1 := by simpa only [Tm.size] using hm
   have h1 : ti.size ≤ Tm.sizes l := h1
   omega
  have hcell := h.cell
  have hone : ∀ (b o : Nat) (z : TV) (ti : Tm) (i : Nat), t.args[i]? = some ti → TermS w S z ti → (∀ (j : Nat) u, (encTV z)[j]? = some u → w.cell? ⟨b, o + j, none⟩ = some u) →
      ∃ z', TermS w' S' z' ti ∧ ∀ (j : Nat) u, (encTV z')[j]? = some u → w'.cell? ⟨b, o + j, none⟩ = some u := fun b o z ti i hi ht hz => by
   rcases hcell b o z hz with ⟨rfl, rfl, rfl⟩ | h1
   ·refine ⟨_, (ih i ti hi).2 ht, fun j u hu => ?_⟩
    obtain _ | _ | _ | _ | j := j
    ·exact h.old _ _ u (fun _ => by omega) (hz 0 u hu)
    ·exact h.old _ _ u (fun _ => by omega) (hz 1 u hu)
    ·exact h.old _ _ u (fun _ => by omega) (hz 2 u hu)
    ·injection hu with hu
     subst hu
     rw [h.len]
     exact h.new
    ·simp [encTV] at hu
   ·exact ⟨z, (ih i ti hi).1 z ht, h1⟩
  have pick : ∀ (args : List Tm) (Q : Nat → TV → Tm → Prop), (∀ (i : Nat) ti, args[i]? = some ti → ∃ z, Q i z ti) → ∃ zs : List TV, zs.length = args.length ∧ ∀ (i : Nat) z ti, zs[i]? = some z → args[i]? = some ti → Q i z ti := fun args => by
   induction args with
   | nil => exact fun Q _ => ⟨[], rfl, fun i z ti hz => by simp at hz⟩
   | cons a r ihr =>
    intro Q hQ
    obtain ⟨z, hz⟩ := hQ 0 a rfl
    obtain ⟨zs, h1, h2⟩ := ihr (fun i => Q (i + 1)) fun i ti hi => hQ (i + 1) ti hi
    refine ⟨z :: zs, by simp [h1], fun i z' ti hz' hti => ?_⟩
    obtain _ | i := i
    ·injection hz' with hz'
     injection hti with hti
     subst hz' hti
     exact hz
    ·exact h2 i z' ti hz' hti
  refine ⟨fun x hx => ?_, fun hy => ?_⟩
  ·cases hx with
   | mk _ args xs h1 h2 h3 hc ht =>
    obtain ⟨zs, g1, g2⟩ := pick args (fun i z ti => TermS w' S' z ti ∧ ∃ b off, x.A = some ⟨b, off, none⟩ ∧ S' b ∧ ∀ (j : Nat) u, (encTV z)[j]? = some u → w'.cell? ⟨b, off + i * 4 + j, none⟩ = some u) fun i ti hi => by
     have hlt : i < xs.length := by rw [h1, ← h2]; exact (List.getElem?_eq_some_iff.1 hi).1
     obtain ⟨b, off, e1, e2, e3⟩ := hc i _ (List.getElem?_eq_getElem hlt)
     obtain ⟨z', q1, q2⟩ := hone b (off + i * 4) _ ti i hi (ht i _ ti (List.getElem?_eq_getElem hlt) hi) e3
     exact ⟨z', q1, b, off, e1, hS b e2, q2⟩
    refine .mk x args zs (by rw [g1, h2]) h2 h3 (fun i z hz => ?_) fun i z ti hz hi => (g2 i z ti hz hi).1
    have hlt : i < args.length := by rw [← g1]; exact (List.getElem?_eq_some_iff.1 hz).1
    exact (g2 i z _ hz (List.getElem?_eq_getElem hlt)).2
  ·cases hy with
   | mk _ args xs h1 h2 h3 hc ht =>
    have hn0 : ∀ (i : Nat) (z : TV), xs[i]? = some z → 0 < n := fun i z hz => by have := (List.getElem?_eq_some_iff.1 hz).1; rw [← h.len, ← h1]; omega
    refine .mk { y with A := A', cap := c } args xs h1 h2 h3 (fun i z hz => ⟨g, 0, h.at0 (hn0 i z hz), hg (hn0 i z hz), fun j u hu => ?_⟩) fun i z ti hz hi => (ih i ti hi).1 z (ht i z ti hz hi)
    obtain ⟨b, off, e1, -, e3⟩ := hc i z hz
    have hj := (List.getElem?_eq_some_iff.1 hu).1
    rw [encTV_len] at hj
    have hi := (List.getElem?_eq_some_iff.1 hz).1
    rw [Nat.zero_add]
    exact h.copy b off (i * 4 + j) u e1 (by rw [← h.len, ← h1]; omega) (by rw [← Nat.add_assoc]; exact e3 j u hu)
theorem Recopy.at {w w' : World} {pb po : Nat} {A' : Option Addr} {g n c : Nat} {y : TV} (h : Recopy w w' pb po A' g n c y) {S S' : Nat → Prop} (hS : ∀ b, S b → S' b) (hg : 0 < n → S' g) {b o : Nat} {z : TV} {t : Tm} (hz : ∀ (j : Nat) u, (encTV z)[j]? = some u → w.cell? ⟨b, o + j, none⟩ = some u) (ht : TermS w S z t) :
    ∃ z', (∀ (j : Nat) u, (encTV z')[j]? = some u → w'.cell? ⟨b, o + j, none⟩ = some u) ∧ TermS w' S' z' t := by
 rcases h.cell b o z hz with ⟨rfl, rfl, rfl⟩ | h1
 ·refine ⟨_, fun j u hu => ?_, (h.term hS hg t.size t (Nat.le_refl _)).2 ht⟩
  obtain _ | _ | _ | _ | j := j
  ·exact h.old _ _ u (fun _ => by omega) (hz 0 u hu)
  ·exact h.old _ _ u (fun _ => by omega) (hz 1 u hu)
  ·exact h.old _ _ u (fun _ => by omega) (hz 2 u hu)
  ·injection hu with hu
   subst hu
   rw [h.len]
   exact h.new
  ·simp [encTV] at hu
 ·exact ⟨z, h1, (h.term hS hg t.size t (Nat.le_refl _)).1 z ht⟩
open Go.RowKit Go.Maps
theorem flat4 : ∀ (xs : List TV) (j : Nat) (v : Value), (xs.flatMap encTV)[j]? = some v → ∃ y, xs[j / 4]? = some y ∧ (encTV y)[j % 4]? = some v
 | [], j, v, h => by simp at h
 | x :: r, j, v, h => by
  rw [List.flatMap_cons] at h
  by_cases hj : j < 4
  ·rw [List.getElem?_append_left (by rw [encTV_len]; exact hj)] at h
   exact ⟨x, by rw [show j / 4 = 0 by omega]; rfl, by rw [show j % 4 = j by omega]; exact h⟩
  ·rw [List.getElem?_append_right (by rw [encTV_len]; omega), encTV_len] at h
   obtain ⟨y, h1, h2⟩ := flat4 r (j - 4) v h
   refine ⟨y, ?_, ?_⟩
   ·rw [show j / 4 = (j - 4) / 4 + 1 by omega, List.getElem?_cons_succ]
    exact h1
   ·rw [show j % 4 = (j - 4) % 4 by omega]
    exact h2
theorem addr_add (b o j : Nat) : (⟨b, o, none⟩ : Addr).add j = ⟨b, o + j, none⟩ := by unfold Addr.add; split <;> simp_all
theorem flat_len4 (xs : List TV) : (xs.flatMap encTV).length = xs.length * 4 := by
 induction xs with
 | nil => rfl
 | cons x r ih =>
  rw [List.flatMap_cons, List.length_append, ih, encTV_len, List.length_cons]
  omega
theorem run_copy_rows {P : Program} (w : World) (dT sT ty elem : TypeId) (sz g dLen dCap : Nat) (a : Addr) (sLen sCap : Nat) (cur : Array Value) (t : TypeId) (cs : List Value)
    (hu : P.underlying dT = some (.slice elem)) (hs : (P.info? elem).map (·.size) = some sz)
    (hg : w.heap[g]? = some (.cells cur t (0, 0))) (hn : cs.length = Nat.min sLen dLen * sz)
    (hsrc : ∀ j v, cs[j]? = some v → w.cell? (a.add j) = some v) (hfit : cs.length ≤ cur.size) (h1 : ∀ v ∈ cs, v.oneCell' = true) :
    (Builtin.copy_ #[dT, sT] ty #[.slice (some ⟨g, 0, none⟩) dLen dCap, .slice (some a) sLen sCap]).run P w =
      .ok (goInt (Nat.min sLen dLen)) (w.setRow g (cs ++ cur.toList.drop cs.length).toArray) := by
 have hl := run_loadCells_list (P := P) w a cs hsrc
 have hst := run_storeCells_at P g 0 t cs 0 cur w hg (by simpa using hfit) h1
 cases hq : P.info? elem with
 | none => simp [hq] at hs
 | some i =>
  have hi : i.size = sz := by simpa [hq] using hs
  simp [Builtin.copy_, run_underlying hu, Builtin.lenOf, Builtin.firstCells, sizeOf, typeInfo, hq, hi, ← hn, hl, hst]
theorem setRow_new (w : World) (c0 cs : Array Value) (e : TypeId) : (w.alloc (.cells c0 e)).setRow w.heap.size cs = w.alloc (.cells cs e) := by
 unfold World.setRow World.alloc
 congr 1
 refine Array.ext_getElem? fun i => ?_
 rw [Array.getElem?_modify, Array.getElem?_push, Array.getElem?_push]
 by_cases h : w.heap.size = i
 ·subst h
  simp
 ·have h2 : ¬ i = w.heap.size := fun e => h e.symm
  rw [if_neg h, if_neg h2, if_neg h2]
theorem copy_terms (w : World) (zs : List TV) (b off m cap : Nat) (hz : zs.length = m) (hs : ∀ (i : Nat) z, zs[i]? = some z → ∀ (j : Nat) v, (encTV z)[j]? = some v → w.cell? ⟨b, off + i * 4 + j, none⟩ = some v) :
    (Builtin.copy_ #[25, 25] 3 #[.slice (some ⟨w.heap.size, 0, none⟩) m m, .slice (some ⟨b, off, none⟩) m cap]).run Tryz.prog (w.alloc (.cells ((List.replicate m zTV).flatMap encTV).toArray 27)) = .ok (.int .i64 (m : Int)) (w.alloc (.cells (zs.flatMap encTV).toArray 27)) := by
 obtain ⟨i0, z0, t1', t2', t3', t4', t5'⟩ := term_info
 have hcl : (zs.flatMap encTV).length = m * 4 := by rw [flat_len4, hz]
 have hzl : (((List.replicate m zTV).flatMap encTV).toArray).size = m * 4 := by rw [List.size_toArray, flat_len4, List.length_replicate]
 have := run_copy_rows (P := Tryz.prog) (w.alloc (.cells ((List.replicate m zTV).flatMap encTV).toArray 27)) 25 25 3 27 4 w.heap.size m m ⟨b, off, none⟩ m cap ((List.replicate m zTV).flatMap encTV).toArray 27 (zs.flatMap encTV) Tryz.underlying25 (by rw [t1', Option.map_some, t3'])
  (heap_alloc_new _ _) (by rw [hcl, show Nat.min m m = m from Nat.min_self m]) (fun j v hv => ?_) (by rw [hcl, hzl]; exact Nat.le_refl _) (fun v hv => by
    rw [List.mem_flatMap] at hv
    obtain ⟨y, -, hy⟩ := hv
    exact encTV_one y v hy)
 ·rw [this, show Nat.min m m = m from Nat.min_self m]
  congr 1
  rw [hcl, List.drop_of_length_le (by rw [Array.length_toList, hzl]; exact Nat.le_refl _), List.append_nil]
  exact setRow_new w _ _ _
 ·obtain ⟨y, y1, y2⟩ := flat4 zs j v hv
  have h := hs (j / 4) y y1 (j % 4) v y2
  rw [show off + j / 4 * 4 + j % 4 = off + j by omega] at h
  rw [addr_add, World.cell?_of_block (w := w) (a := ⟨b, off + j, none⟩) (Below.heap_alloc _ _ _ (World.block_lt_of_cell? w _ h))]
  exact h
end Go.Proofs.YtjdnigepnfeboaaGreatDoor
