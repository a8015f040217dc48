import Derived.Test.YtjdnigepnfeboaaGreatDoorJG23
import Derived.Test.YtjdnigepnfeboaaGreatDoorJG21
import Derived.Test.YtjdnigepnfeboaaGreatDoorJG05
import Derived.Laws.EntriesVeiled
namespace Go.Proofs.YtjdnigepnfeboaaGreatDoor
open Go.Maps
abbrev goal2 (s : List UInt8) (x y : Tm) : Tm := .mk 4 0 s [x, y]
abbrev put0 (t : Tm) : Nat × PS := putT t ⟨[], []⟩
structure Put2 (s : List UInt8) (x y : Tm) (a b : Nat) : Prop where
 root : (put0 (goal2 s x y)).1 = 0
 cell : (put0 (goal2 s x y)).2.cs[0]? = some ⟨4, 0, s, [a, b], none⟩
 shape : ∃ T, Shape (put0 (goal2 s x y)).2.cs T ∧ T a = x ∧ T b = y
 free : ∀ (i : Nat) c, (put0 (goal2 s x y)).2.cs[i]? = some c → c.to = none ∧ ∀ q ∈ c.args, q < (put0 (goal2 s x y)).2.cs.length
 la : a < (put0 (goal2 s x y)).2.cs.length
 lb : b < (put0 (goal2 s x y)).2.cs.length
 got : ∃ f : Int → Int, (∀ n, 0 ≤ f n) ∧ Got (put0 (goal2 s x y)).2.cs a (vmT f x) ∧ Got (put0 (goal2 s x y)).2.cs b (vmT f y) ∧ (∀ p ∈ vrT x, ∀ q ∈ vrT y, f p = f q → p = q) ∧ ∀ n, f n ≤ (put0 (goal2 s x y)).2.cs.length
 vnil : VarNil (put0 (goal2 s x y)).2.cs
mutual
theorem putT_nil : ∀ (t : Tm) (p : PS), t.may = true → VarNil p.cs → VarNil (putT t p).2.cs
 | .mk k n s l, p, hm, h => by
  have app : ∀ c : Sc, (c.k = 1 → c.args = []) → VarNil (p.cs ++ [c]) := fun c hc i d hd hk => by
   by_cases hi : i < p.cs.length
   ·rw [List.getElem?_append_left hi] at hd
    exact h i d hd hk
   ·rw [List.getElem?_append_right (by omega)] at hd
    have hz : i - p.cs.length = 0 := by have := (List.getElem?_eq_some_iff.1 hd).1; simpa using this
    rw [hz] at hd
    injection hd with hd
    subst hd
    exact hc hk
  rw [putT]
  by_cases h1 : k = 1
  ·rw [if_pos h1]
   cases mget p.fr n with
   | some a => exact h
   | none => exact app _ fun _ => rfl
  ·rw [if_neg h1]
   by_cases h4 : k = 4
   ·rw [if_pos h4]
    have hl := putL_nil l ⟨p.cs ++ [⟨4, 0, s, [], none⟩], p.fr⟩ (may_args hm) (app _ fun e => by cases e)
    intro i d hd hk
    by_cases hi : i = p.cs.length
    ·subst hi
     by_cases hlt : p.cs.length < (putL l ⟨p.cs ++ [⟨4, 0, s, [], none⟩], p.fr⟩).2.cs.length
     ·rw [List.getElem?_set_self hlt] at hd
      injection hd with hd
      subst hd
      cases hk
     ·rw [List.getElem?_eq_none (by rw [List.length_set]; omega)] at hd
      cases hd
    ·rw [List.getElem?_set_ne (Ne.symm hi)] at hd
     exact hl i d hd hk
   ·rw [if_neg h4]
    exact app _ fun e => absurd e h1
theorem putL_nil : ∀ (l : List Tm) (p : PS), (∀ t ∈ l, t.may = true) → VarNil p.cs → VarNil (putL l p).2.cs
 | [], p, _, h => by rw [putL]; exact h
 | t :: r, p, hm, h => by
  rw [putL]
  exact putL_nil r _ (fun x hx => hm x (List.mem_cons_of_mem _ hx)) (putT_nil t p (hm t (List.mem_cons_self ..)) h)
end
theorem vrL_in {p : Int} : ∀ {l : List Tm}, p ∈ vrL l → ∃ t ∈ l, p ∈ vrT t
 | [], h => by simp [vrL] at h
 | t :: r, h => by
  rw [vrL] at h
  rcases List.mem_append.1 h with h | h
  ·exact ⟨t, List.mem_cons_self .., h⟩
  ·obtain ⟨t', h1, h2⟩ := vrL_in h
   exact ⟨t', List.mem_cons_of_mem _ h1, h2⟩
mutual
theorem var_cell {cs : List Sc} {T : Nat → Tm} (hT : ∀ (i : Nat) c, cs[i]? = some c → c.k ≠ 1 → T i = .mk c.k c.n c.s (c.args.map T)) (hv : ∀ (i : Nat) c, cs[i]? = some c → c.k = 1 → ∃ n, T i = .mk 1 n [] []) (h0 : ∀ (i : Nat) c, cs[i]? = some c → ∀ a ∈ c.args, a < cs.length) :
    ∀ (t : Tm) (i : Nat), i < cs.length → T i = t → ∀ p ∈ vrT t, ∃ (j : Nat) (c : Sc), cs[j]? = some c ∧ c.k = 1 ∧ T j = .mk 1 p [] []
 | .mk k n s l, i, hi, he, p, hp => by
  have hc := List.getElem?_eq_getElem hi
  generalize cs[i] = c at hc
  by_cases hk : c.k = 1
  ·obtain ⟨m, e1⟩ := hv i c hc hk
   have e2 := e1
   rw [he] at e1
   injection e1 with q1 q2 q3 q4
   subst q1 q2 q3 q4
   simp only [vrT, vrL, if_true, List.append_nil, List.mem_singleton] at hp
   subst hp
   exact ⟨i, c, hc, hk, e2⟩
  ·have e1 := hT i c hc hk
   rw [he] at e1
   injection e1 with q1 q2 q3 q4
   subst q1 q2 q3
   rw [vrT, if_neg hk, List.nil_append] at hp
   obtain ⟨t, h1, h2⟩ := vrL_in hp
   have h1' := h1
   rw [q4] at h1'
   obtain ⟨a, h3, h4⟩ := List.mem_map.1 h1'
   exact var_cellL hT hv h0 l t h1 a (h0 i c hc a h3) h4 p h2
theorem var_cellL {cs : List Sc} {T : Nat → Tm} (hT : ∀ (i : Nat) c, cs[i]? = some c → c.k ≠ 1 → T i = .mk c.k c.n c.s (c.args.map T)) (hv : ∀ (i : Nat) c, cs[i]? = some c → c.k = 1 → ∃ n, T i = .mk 1 n [] []) (h0 : ∀ (i : Nat) c, cs[i]? = some c → ∀ a ∈ c.args, a < cs.length) :
    ∀ (l : List Tm) (t : Tm), t ∈ l → ∀ (i : Nat), i < cs.length → T i = t → ∀ p ∈ vrT t, ∃ (j : Nat) (c : Sc), cs[j]? = some c ∧ c.k = 1 ∧ T j = .mk 1 p [] []
 | [], t, ht => by cases ht
 | x :: r, t, ht => fun i hi he p hp => by
  have hx := var_cell hT hv h0 x
  have hr := var_cellL hT hv h0 r
  rcases List.mem_cons.1 ht with e | ht
  ·subst e
   exact hx i hi he p hp
  ·exact hr t ht i hi he p hp
end
theorem put2 (s : List UInt8) (x y : Tm) (hm : (goal2 s x y).may = true) : ∃ a b, Put2 s x y a b := by
 obtain ⟨T, hP, hF, h1, h2⟩ := putT_ok (goal2 s x y) ⟨[], []⟩ (fun _ => .mk 0 0 [] []) ⟨fun x hx => (by cases hx), fun x hx => (by cases hx)⟩ hm
 obtain ⟨T2, hS, h3, -, h5⟩ := put_shape (goal2 s x y) hm
 have hr : (put0 (goal2 s x y)).1 = 0 := by
  unfold put0 goal2
  rw [putT, if_neg (by decide), if_pos rfl]
  rfl
 have hcell : (put0 (goal2 s x y)).2.cs[0]? = some ⟨4, 0, s, [(putT x ⟨[⟨4, 0, s, [], none⟩], []⟩).1, (putT y (putT x ⟨[⟨4, 0, s, [], none⟩], []⟩).2).1], none⟩ := by
  have hl : 0 < (put0 (goal2 s x y)).2.cs.length := by rw [← hr]; exact h1
  revert hl
  unfold put0 goal2
  rw [putT, if_neg (by decide), if_pos rfl]
  simp only [List.length_nil, List.nil_append, List.length_set]
  intro hl
  rw [List.getElem?_set_self hl]
  rw [putL, putL, putL]
 generalize (putT x ⟨[⟨4, 0, s, [], none⟩], []⟩).1 = a at hcell
 generalize (putT y (putT x ⟨[⟨4, 0, s, [], none⟩], []⟩).2).1 = b at hcell
 have hfree := h5
 have hab := (hfree 0 _ hcell).2
 have e2 := hS.comp 0 _ hcell (show (4 : Int) ≠ 1 by decide)
 have h3' : T2 0 = goal2 s x y := by rw [← h3]; exact congrArg T2 hr.symm
 rw [h3'] at e2
 injection e2 with _ _ _ e2
 simp only [List.map_cons, List.map_nil, List.cons.injEq, and_true] at e2
 refine ⟨a, b, hr, hcell, ⟨T2, hS, e2.1.symm, e2.2.symm⟩, hfree, hab a (by simp), hab b (by simp), ?_, putT_nil _ _ hm fun i c hc => by simp at hc⟩
 have e1 := (hP.new 0 _ (Nat.zero_le _) hcell).2.2.2 (show (4 : Int) ≠ 1 by decide)
 have h2' : T 0 = goal2 s x y := by rw [← h2]; exact congrArg T hr.symm
 rw [h2'] at e1
 injection e1 with _ _ _ e1
 simp only [List.map_cons, List.map_nil, List.cons.injEq, and_true] at e1
 have hT : ∀ (i : Nat) c, (put0 (goal2 s x y)).2.cs[i]? = some c → c.k ≠ 1 → T i = .mk c.k c.n c.s (c.args.map T) := fun i c hc hk => (hP.new i c (Nat.zero_le _) hc).2.2.2 hk
 have hv : ∀ (i : Nat) c, (put0 (goal2 s x y)).2.cs[i]? = some c → c.k = 1 → ∃ n, T i = .mk 1 n [] [] ∧ varAt (put0 (goal2 s x y)).2.fr n = i := fun i c hc hk => by
  obtain ⟨n, hn⟩ := (hP.new i c (Nat.zero_le _) hc).2.2.1 hk
  refine ⟨n, (hF.at' _ hn).2, ?_⟩
  unfold varAt
  cases hg : mget (put0 (goal2 s x y)).2.fr n with
  | none => exact absurd rfl (mget_eq_none hg _ hn)
  | some j =>
   have := hF.one _ (mget_mem hg) _ hn rfl
   simp only at this
   rw [this]
   rfl
 refine ⟨varAt (put0 (goal2 s x y)).2.fr, fun n => by unfold varAt; omega, got_free hT hv hfree x a (hab a (by simp)) e1.1.symm, got_free hT hv hfree y b (hab b (by simp)) e1.2.symm, fun p hp q hq e => ?_, fun n => ?_⟩
 rotate_left
 ·unfold varAt
  cases hg : mget (put0 (goal2 s x y)).2.fr n with
  | none => simp
  | some j =>
   have := (hF.at' _ (mget_mem hg)).1
   simp only at this
   show ((j : Nat) : Int) ≤ (((putT (goal2 s x y) ⟨[], []⟩).2.cs.length : Nat) : Int)
   omega
 have hv' : ∀ (i : Nat) c, (put0 (goal2 s x y)).2.cs[i]? = some c → c.k = 1 → ∃ n, T i = .mk 1 n [] [] := fun i c hc hk => by
  obtain ⟨n, h, -⟩ := hv i c hc hk
  exact ⟨n, h⟩
 obtain ⟨i, c, hc, hk, hi⟩ := var_cell hT hv' (fun i c hc => (hfree i c hc).2) x a (hab a (by simp)) e1.1.symm p hp
 obtain ⟨j, d, hd, hk', hj⟩ := var_cell hT hv' (fun i c hc => (hfree i c hc).2) y b (hab b (by simp)) e1.2.symm q hq
 obtain ⟨n, g1, g2⟩ := hv i c hc hk
 obtain ⟨m, g3, g4⟩ := hv j d hd hk'
 rw [hi] at g1
 rw [hj] at g3
 injection g1 with _ g1
 injection g3 with _ g3
 subst g1 g3
 obtain rfl : i = j := by omega
 rw [hi] at hj
 injection hj
def EqLaw (s : List UInt8) (x y : Tm) (ok : Bool) : Prop :=
 (s = [61] → (ok = true ↔ Unif x y)) ∧ (s = [92, 61] → (ok = true ↔ ¬ Unif x y)) ∧ (s = [61, 61] → (ok = true ↔ x = y)) ∧ (s ≠ [92, 61] → ok = true → Unif x y)
theorem flw_free {cs : List Sc} (h : ∀ (i : Nat) c, cs[i]? = some c → c.to = none) : Flw cs := fun i hi => ⟨i, .here (List.getElem?_eq_getElem hi) (h i _ (List.getElem?_eq_getElem hi))⟩
theorem Put2.uni {s : List UInt8} {x y : Tm} {a b : Nat} (h : Put2 s x y a b) {safe ok : Bool} {csF : List Sc} {bsF : List Nat} {w : Nat} (hu : Uni safe (put0 (goal2 s x y)).2.cs [] [(a, b)] w (ok, 0) csF bsF) : (ok = true → Unif x y) ∧ (safe = false → ok = false → ¬ Unif x y) := by
 obtain ⟨T, h1, h2, h3⟩ := h.shape
 obtain ⟨g1, g2⟩ := uni_unif hu h1 (flw_free fun i c hc => (h.free i c hc).1) fun i c hc => (h.free i c hc).1
 rw [h2, h3] at g1 g2
 exact ⟨g1, fun e1 e2 => g2 e1 e2 rfl⟩
theorem Put2.eq {x y : Tm} {a b : Nat} (h : Put2 [61] x y a b) {ok : Bool} {csF : List Sc} {bsF : List Nat} {w : Nat} (hu : Uni false (put0 (goal2 [61] x y)).2.cs [] [(a, b)] w (ok, 0) csF bsF) : EqLaw [61] x y ok := by
 obtain ⟨g1, g2⟩ := h.uni hu
 refine ⟨fun _ => ⟨g1, fun hU => ?_⟩, fun e => (by cases e), fun e => (by cases e), fun _ => g1⟩
 cases ok with
 | true => rfl
 | false => exact absurd hU (g2 rfl rfl)
theorem Put2.ne {x y : Tm} {a b : Nat} (h : Put2 [92, 61] x y a b) {ok : Bool} {csF : List Sc} {bsF : List Nat} {w : Nat} (hu : Uni false (put0 (goal2 [92, 61] x y)).2.cs [] [(a, b)] w (!ok, 0) csF bsF) : EqLaw [92, 61] x y ok := by
 obtain ⟨g1, g2⟩ := h.uni hu
 refine ⟨fun e => (by cases e), fun _ => ⟨fun e => g2 rfl (by rw [e]; rfl), fun hU => ?_⟩, fun e => (by cases e), fun e => absurd rfl e⟩
 cases ok with
 | true => rfl
 | false => exact absurd (g1 rfl) hU
theorem Put2.safe {s : List UInt8} (hs : 2 < s.length) {x y : Tm} {a b : Nat} (h : Put2 s x y a b) {ok : Bool} {csF : List Sc} {bsF : List Nat} {w : Nat} (hu : Uni true (put0 (goal2 s x y)).2.cs [] [(a, b)] w (ok, 0) csF bsF) : EqLaw s x y ok :=
 ⟨fun e => by rw [e] at hs; simp at hs, fun e => by rw [e] at hs; simp at hs, fun e => by rw [e] at hs; simp at hs, fun _ => (h.uni hu).1⟩
theorem law_same {x y : Tm} {ok : Bool} (h : ok = true ↔ x = y) : EqLaw [61, 61] x y ok :=
 ⟨fun e => (by cases e), fun e => (by cases e), fun _ => h, fun _ e => by rw [h.1 e]; exact Unif.refl _⟩
theorem equals_last {x y : Tm} {s : List UInt8} (hs : 2 < s.length) {eq qe ne is safe : Bool} (h1 : EqLaw [61] x y eq) (h2 : EqLaw [61] y x qe) (h3 : EqLaw [92, 61] x y ne) (h4 : EqLaw [61, 61] x y is) (h5 : EqLaw s x y safe) :
    eq = qe ∧ ne = !eq ∧ (is = true → eq = true) ∧ (safe = true → eq = true) ∧ (is = true ↔ x = y) := by
 have e1 := h1.1 rfl
 have e2 := h2.1 rfl
 have e3 := h3.2.1 rfl
 have e4 := h4.2.2.1 rfl
 have e5 := h5.2.2.2 (by rintro rfl; simp at hs)
 have hsy : Unif y x ↔ Unif x y := ⟨Unif.symm, Unif.symm⟩
 refine ⟨?_, ?_, fun e => e1.2 ((e4.1 e) ▸ Unif.refl x), fun e => e1.2 (e5 e), e4⟩
 ·rw [Bool.eq_iff_iff, e1, e2, hsy]
 ·rw [Bool.eq_iff_iff, e3, Bool.not_eq_true', ← Bool.not_eq_true, e1]
open Go.RowKit Go.Maps
set_option maxRecDepth 100000
mutual
theorem vmT_size (f : Int → Int) : ∀ t : Tm, (vmT f t).size = t.size
 | .mk k n s l => by rw [vmT, Tm.size, Tm.size, vmL_size f l]
theorem vmL_size (f : Int → Int) : ∀ l : List Tm, Tm.sizes (vmL f l) = Tm.sizes l
 | [] => rfl
 | t :: r => by rw [vmL, Tm.sizes, Tm.sizes, vmT_size f t, vmL_size f r]
end
mutual
theorem vrT_vm (f : Int → Int) : ∀ (t : Tm) (n : Int), n ∈ vrT (vmT f t) → ∃ m, m ∈ vrT t ∧ n = f m
 | .mk k n s l, p, h => by
  rw [vmT, vrT] at h
  rw [vrT]
  rcases List.mem_append.1 h with h | h
  ·by_cases hk : k = 1
   ·rw [if_pos hk, if_pos hk, List.mem_singleton] at h
    exact ⟨n, List.mem_append_left _ (by rw [if_pos hk]; exact List.mem_singleton.2 rfl), h⟩
   ·rw [if_neg hk] at h
    cases h
  ·obtain ⟨m, h1, h2⟩ := vrL_vm f l p h
   exact ⟨m, List.mem_append_right _ h1, h2⟩
theorem vrL_vm (f : Int → Int) : ∀ (l : List Tm) (n : Int), n ∈ vrL (vmL f l) → ∃ m, m ∈ vrL l ∧ n = f m
 | [], p, h => by rw [vmL, vrL] at h; cases h
 | t :: r, p, h => by
  rw [vmL, vrL] at h
  rw [vrL]
  rcases List.mem_append.1 h with h | h
  ·obtain ⟨m, h1, h2⟩ := vrT_vm f t p h
   exact ⟨m, List.mem_append_left _ h1, h2⟩
  ·obtain ⟨m, h1, h2⟩ := vrL_vm f r p h
   exact ⟨m, List.mem_append_right _ h1, h2⟩
end
theorem numAt_pos {m : List (Int × Int)} (h : NumOk m) (n : Int) : 0 ≤ numAt m n := by
 unfold numAt
 cases hg : mget m n with
 | none => exact Int.le_refl _
 | some a =>
  obtain ⟨i, hi⟩ := List.mem_iff_getElem?.1 (mget_mem hg)
  have := h.at' i _ hi
  simp only at this
  rw [Option.getD_some, this]
  omega
theorem ren_two {X Y : Tm} (hX : X.may = true) (hY : Y.may = true) : ((renT X []).1.may = true ∧ (renT X []).1.size = X.size) ∧ ((renT Y (renT X []).2).1.may = true ∧ (renT Y (renT X []).2).1.size = Y.size) ∧ NumOk (renT Y (renT X []).2).2 := by
 obtain ⟨h1, -, h3⟩ := renT_ok X [] hX ⟨fun i x h => by simp at h, fun x h => by cases h⟩
 obtain ⟨g1, -, g3⟩ := renT_ok Y (renT X []).2 hY h1
 obtain ⟨q1, -⟩ := h3 _ h1 ⟨[], by simp⟩
 obtain ⟨r1, -⟩ := g3 _ g1 ⟨[], by simp⟩
 refine ⟨?_, ?_, g1⟩
 ·rw [q1]
  exact ⟨vmT_may _ (numAt_pos h1) X hX, vmT_size _ X⟩
 ·rw [r1]
  exact ⟨vmT_may _ (numAt_pos g1) Y hY, vmT_size _ Y⟩
structure AskAt (nb mb tb : Nat) (u : World) (L : List Tm) (wr : World) (q : Nat) (zs : List TV) : Prop where
 rn : RnAt nb mb wr (renL (L.take q) []).2
 below : Below u.heap.size u wr
 row : Row wr u.heap.size 27 4 encTV (.slice (some ⟨tb, 0, none⟩) 2 2) (zs ++ List.replicate (2 - q) zTV)
 ts : TermsS wr (fun b => tb < b ∧ TyB wr 27 b) zs (renL (L.take q) []).1
 len : zs.length = q
section
variable {nb mb tb q : Nat} {u wr V w5 : World} {L : List Tm} {zs : List TV}
theorem AskAt.after (h : AskAt nb mb tb u L wr q zs) (hb : Below wr.heap.size wr V) (hf : Fr (fun k => k = nb ∨ k = mb) V w5) (hq : q < 2) :
    Row w5 u.heap.size 27 4 encTV (.slice (some ⟨tb, 0, none⟩) 2 2) (zs ++ List.replicate (2 - q) zTV) ∧ (zs ++ List.replicate (2 - q) zTV)[q]? = some zTV ∧ w5.cell? ⟨tb, q * 4, none⟩ = some (.int .i64 0) ∧ w5.cell? ⟨tb, q * 4 + 1, none⟩ = some (.int .i64 0) ∧ w5.cell? ⟨tb, q * 4 + 2, none⟩ = some (.string ⟨#[]⟩) ∧ w5.cell? ⟨tb, q * 4 + 3, none⟩ = some (.slice none 0 0) ∧ (∀ o, w5.frozen? ⟨tb, o, none⟩ = false) ∧ tb < w5.heap.size := by
 have hty : TyB wr 27 tb := h.row.ty rfl
 obtain ⟨n1, n2⟩ := h.rn.ne hty (by decide)
 have hk := (hf.block tb (Nat.lt_of_lt_of_le hty.lt hb.size) (fun e => by rcases e with e | e; exact n1 e; exact n2 e)).trans (hb.block tb hty.lt)
 have hr := h.row.keep (w' := w5) fun k hk' => by
  have e : tb = k := Option.some.inj hk'
  rw [← e]
  exact hk
 have hz : (zs ++ List.replicate (2 - q) zTV)[q]? = some zTV := by
  rw [List.getElem?_append_right (by rw [h.len]; exact Nat.le_refl _), h.len, Nat.sub_self, List.getElem?_replicate, if_pos (by omega)]
 obtain ⟨g, cap, e, -, -, -, hc⟩ := hr.cells encTV_len (fun e => by rw [e] at hz; cases hz)
 injection e with e
 injection e with e
 injection e with e
 subst e
 obtain ⟨cs0, h0⟩ := hty.keep hk
 exact ⟨hr, hz, (hc q zTV hz 0 _ rfl).1, (hc q zTV hz 1 _ rfl).1, (hc q zTV hz 2 _ rfl).1, (hc q zTV hz 3 _ rfl).1, fun o => by simp [World.frozen?, h0], Nat.lt_of_lt_of_le hty.lt (Nat.le_trans hb.size hf.size)⟩
theorem AskAt.next {y : TV} {s : Tm} (h : AskAt nb mb tb u L wr q zs) (hb : Below wr.heap.size wr V) (hf : Fr (fun k => k = nb ∨ k = mb) V w5) (ht : TermS w5 (NewB V.heap.size w5) y (renT s (renL (L.take q) []).2).1) (hg : RnAt nb mb w5 (renT s (renL (L.take q) []).2).2) (hs : L[q]? = some s) (hq : q < 2)
    (hr : Row w5 u.heap.size 27 4 encTV (.slice (some ⟨tb, 0, none⟩) 2 2) (zs ++ List.replicate (2 - q) zTV)) (hz : (zs ++ List.replicate (2 - q) zTV)[q]? = some zTV) (hn : u.heap.size ≤ nb ∧ u.heap.size ≤ mb) :
    AskAt nb mb tb u L ((((w5.setCell ⟨tb, q * 4, none⟩ (.int .i64 y.k)).setCell ⟨tb, q * 4 + 1, none⟩ (.int .i64 y.n)).setCell ⟨tb, q * 4 + 2, none⟩ (.string ⟨y.s.toArray⟩)).setCell ⟨tb, q * 4 + 3, none⟩ (.slice y.A y.len y.cap)) (q + 1) (zs ++ [y]) := by
 have hty : TyB wr 27 tb := h.row.ty rfl
 have hut := (h.row.lt tb rfl).1
 have hset : ∀ b, b ≠ tb → ((((w5.setCell ⟨tb, q * 4, none⟩ (.int .i64 y.k)).setCell ⟨tb, q * 4 + 1, none⟩ (.int .i64 y.n)).setCell ⟨tb, q * 4 + 2, none⟩ (.string ⟨y.s.toArray⟩)).setCell ⟨tb, q * 4 + 3, none⟩ (.slice y.A y.len y.cap)).heap[b]? = w5.heap[b]? := fun b hb => by
  rw [Below.heap_setCell _ _ _ _ hb, Below.heap_setCell _ _ _ _ hb, Below.heap_setCell _ _ _ _ hb, Below.heap_setCell _ _ _ _ hb]
 have hT : ∀ b, TyB wr 27 b → w5.heap[b]? = wr.heap[b]? := fun b hb' => by
  obtain ⟨n1, n2⟩ := h.rn.ne hb' (by decide)
  exact (hf.block b (Nat.lt_of_lt_of_le hb'.lt hb.size) (fun e => by rcases e with e | e; exact n1 e; exact n2 e)).trans (hb.block b hb'.lt)
 obtain ⟨n1, n2⟩ := h.rn.ne hty (by decide)
 have hsn : renL (L.take (q + 1)) [] = ((renL (L.take q) []).1 ++ [(renT s (renL (L.take q) []).2).1], (renT s (renL (L.take q) []).2).2) := by
  rw [List.take_add_one, hs]
  exact renL_snoc _ _ _
 refine ⟨?_, ?_, ?_, ?_, by rw [List.length_append, h.len]; rfl⟩
 ·rw [hsn]
  exact hg.keep (hset nb (Ne.symm n1)) (hset mb (Ne.symm n2))
 ·have h1 : Below u.heap.size u w5 := (h.below.trans (hb.mono h.below.size)).trans (hf.below (Nat.le_trans h.below.size hb.size) fun k hk e => by rcases e with e | e <;> omega)
  exact (((h1.setCell (p := ⟨tb, q * 4, none⟩) hut _).setCell (p := ⟨tb, q * 4 + 1, none⟩) hut _).setCell (p := ⟨tb, q * 4 + 2, none⟩) hut _).setCell (p := ⟨tb, q * 4 + 3, none⟩) hut _
 ·have h1 := row_put4 hr y hz
  have h2 : (zs ++ List.replicate (2 - q) zTV).set q y = zs ++ [y] ++ List.replicate (2 - (q + 1)) zTV := by
   rw [List.set_append_right _ _ (by rw [h.len]; exact Nat.le_refl _), h.len, Nat.sub_self, show 2 - q = (2 - (q + 1)) + 1 by omega, List.replicate_succ, List.set_cons_zero, List.append_assoc]
   rfl
  rw [h2] at h1
  exact h1
 ·rw [hsn]
  have hlt : tb < wr.heap.size := hty.lt
  have hVs := hb.size
  refine (h.ts.keep (fun b hb => ⟨hb.1, hb.2.keep ((hset b (by omega)).trans (hT b hb.2))⟩) fun b hb => (hset b (by omega)).trans (hT b hb.2)).snoc ?_
  exact ht.keep (fun b hb => ⟨by have := hb.1; omega, hb.2.keep (hset b (by have := hb.1; omega))⟩) fun b hb => hset b (by have := hb.1; omega)
end
end Go.Proofs.YtjdnigepnfeboaaGreatDoor
namespace Go.Proofs.YtjdnigepnfeboaaGreatDoor
open Go.RowKit Go.Maps
set_option maxRecDepth 100000
variable [Base]
set_option linter.unusedSectionVars false
section
variable {sb room : Nat} {u u' : World} {cv bv : Value} {xs : List ScM} {cs : List Sc} {ys : List (Nat × Int)}
omit [Base] in
theorem Got.lt {i : Nat} {t : Tm} (h : Got cs i t) : i < cs.length := by
 cases h with
 | var hr _ _ => exact hr.lt
 | part hr _ _ _ _ => exact hr.lt
set_option maxHeartbeats 8000000 in
theorem Get_st (hs : StAt sb room u cv bv xs cs ys) (hv : VarNil cs) {i : Nat} {t : Tm} (ht : Got cs i t) (hsz : t.size ≤ 2000) :
    Calls Tryz.prog 157 #[.pointer (some ⟨sb, 0, none⟩), .int .i64 (i : Nat)] u fun e u' => ∃ y : TV, e = .returned (.tuple #[tvV y, .int .i64 0]) ∧ TermS u' (NewB u.heap.size u') y t ∧ Below u.heap.size u u' := by
 obtain ⟨P, hP⟩ : ∃ P : Ending → World → Prop, P = fun e u' => ∃ y : TV, e = .returned (.tuple #[tvV y, .int .i64 0]) ∧ TermS u' (NewB u.heap.size u') y t ∧ Below u.heap.size u u' := ⟨_, rfl⟩
 rw [← hP]
 have HP := Lib.hid hP
 have hd : decide (0 ≤ (i : Int) ∧ (i : Int) < (cs.length : Int)) = true := decide_eq_true ⟨by omega, by have := ht.lt; omega⟩
 obtain ⟨U, hU⟩ : ∃ U, U = u.alloc (.cells #[.int .i64 0, .int .i64 0, .string ⟨#[]⟩, .slice none 0 0] 27) := ⟨_, rfl⟩
 have hbU : Below u.heap.size u U := by rw [hU]; exact (Below.refl _ _).alloc (Nat.le_refl _) _
 have hz : U.heap[u.heap.size]? = some (.cells #[.int .i64 0, .int .i64 0, .string ⟨#[]⟩, .slice none 0 0] 27 (0, 0)) := by rw [hU]; exact heap_alloc_new _ _
 obtain ⟨V, hV⟩ : ∃ V, V = U.alloc (.cells #[.pointer (some ⟨sb, 0, none⟩), .int .i64 0, .map none] 373) := ⟨_, rfl⟩
 have hbV : Below u.heap.size u V := by rw [hV]; exact hbU.alloc hbU.size _
 have hg : GeAt U.heap.size sb V 0 := by rw [hV]; exact heap_alloc_new _ _
 obtain ⟨gb, hgb⟩ : ∃ gb, gb = U.heap.size := ⟨_, rfl⟩
 obtain ⟨rk, hrk⟩ : ∃ rk, rk = u.heap.size := ⟨_, rfl⟩
 have hrg : rk < gb := by rw [hrk, hgb]; exact (Array.getElem?_eq_some_iff.1 hz).1
 have HV : Hid (StAt sb room V cv bv xs cs ys ∧ GeAt gb sb V 0 ∧ V.heap[rk]? = some (.cells #[.int .i64 0, .int .i64 0, .string ⟨#[]⟩, .slice none 0 0] 27 (0, 0)) ∧ u.heap.size ≤ rk ∧ u.heap.size ≤ gb) := Lib.hid ⟨hs.later hbV, by rw [hgb]; exact hg, by
  rw [hrk, hV, Below.heap_alloc _ _ _ (Array.getElem?_eq_some_iff.1 hz).1]
  exact hz, by rw [hrk]; exact Nat.le_refl _, by rw [hgb]; exact hbU.size⟩
 have HU := Lib.hid (hs.later hbU)
 have HB := Lib.hid hbV
 have HT := Lib.hid (And.intro hv (And.intro ht hsz))
 have HD := Lib.hid hd
 clear hP hs hv ht hsz hd hbU hz hbV hg
 go_enter Tryz.func157, Tryz.ntmps157
 go_upto_region 1 with fail
 rw [← hU, ← hrk]
 clear hU hrk
 go_wp2_with fail
 refine (there_any HU.out _).mono ?_
 rintro e w1 ⟨rfl, rfl⟩
 rw [HD.out]
 go_upto_region 6 with fail
 rw [← hV, ← hgb]
 clear hV hgb
 go_wp2_with fail
 refine (get_all gb sb room t.size t V i 1 0 cv bv xs cs ys (Nat.le_refl _) HV.out.1 HV.out.2.1 HT.out.1 HT.out.2.1 (by have := HT.out.2.2; omega) (by have := HT.out.2.2; omega)).mono ?_
 rintro e W ⟨y, rfl, ht5, hg5, hf5⟩
 unfold tvV
 have hrw := (hf5.block rk (Array.getElem?_eq_some_iff.1 HV.out.2.2.1).1 (fun e => by omega)).trans HV.out.2.2.1
 obtain ⟨W2, hW2⟩ : ∃ W2, W2 = W.alloc (.cells #[.int .i64 y.k, .int .i64 y.n, .string ⟨y.s.toArray⟩, .slice y.A y.len y.cap] 27) := ⟨_, rfl⟩
 have hb2 : Below W.heap.size W W2 := by rw [hW2]; exact (Below.refl _ _).alloc (Nat.le_refl _) _
 have hr2 := (hb2.block _ (Array.getElem?_eq_some_iff.1 hrw).1).trans hrw
 obtain ⟨xb, hxb⟩ : ∃ xb, xb = W.heap.size := ⟨_, rfl⟩
 have hx2 : W2.heap[xb]? = some (.cells #[.int .i64 y.k, .int .i64 y.n, .string ⟨y.s.toArray⟩, .slice y.A y.len y.cap] 27 (0, 0)) := by rw [hW2, hxb]; exact heap_alloc_new _ _
 obtain ⟨r0, r1, r2, r3, rf⟩ := four_at hr2
 obtain ⟨x0, x1, x2, x3, xf⟩ := four_at hx2
 have hlr : rk < W2.heap.size := (Array.getElem?_eq_some_iff.1 hr2).1
 have hlx : xb < W2.heap.size := (Array.getElem?_eq_some_iff.1 hx2).1
 have hrx : rk ≠ xb := by rw [hxb]; have := (Array.getElem?_eq_some_iff.1 hrw).1; omega
 have hxr : xb ≠ rk := Ne.symm hrx
 have HQ : Hid (P (.returned (.tuple #[tvV y, .int .i64 0])) ((((W2.setCell ⟨rk, 0, none⟩ (.int .i64 y.k)).setCell ⟨rk, 1, none⟩ (.int .i64 y.n)).setCell ⟨rk, 2, none⟩ (.string ⟨y.s.toArray⟩)).setCell ⟨rk, 3, none⟩ (.slice y.A y.len y.cap))) := Lib.hid (by
  have hVs := HB.out.size
  have hk : ∀ b, NewB V.heap.size W b → ((((W2.setCell ⟨rk, 0, none⟩ (.int .i64 y.k)).setCell ⟨rk, 1, none⟩ (.int .i64 y.n)).setCell ⟨rk, 2, none⟩ (.string ⟨y.s.toArray⟩)).setCell ⟨rk, 3, none⟩ (.slice y.A y.len y.cap)).heap[b]? = W.heap[b]? := fun b hb => by
   rw [blk_set4_ne _ _ _ _ (by have := hb.1; have := (Array.getElem?_eq_some_iff.1 HV.out.2.2.1).1; omega)]
   exact hb2.block b hb.2.lt
  rw [HP.out]
  refine ⟨y, rfl, ht5.keep (fun b hb => ⟨by have := hb.1; omega, hb.2.keep (hk b hb)⟩) hk, ?_⟩
  have h1 : Below u.heap.size u W2 := HB.out.trans ((hf5.below HB.out.size fun k hk e => by have := HV.out.2.2.2.2; omega).trans (hb2.mono (Nat.le_trans HB.out.size hf5.size)))
  have h2 := HV.out.2.2.2.1
  exact (((h1.setCell (p := ⟨rk, 0, none⟩) h2 _).setCell (p := ⟨rk, 1, none⟩) h2 _).setCell (p := ⟨rk, 2, none⟩) h2 _).setCell (p := ⟨rk, 3, none⟩) h2 _)
 obtain ⟨WF, hWF⟩ : ∃ WF, WF = ((((W2.setCell ⟨rk, 0, none⟩ (.int .i64 y.k)).setCell ⟨rk, 1, none⟩ (.int .i64 y.n)).setCell ⟨rk, 2, none⟩ (.string ⟨y.s.toArray⟩)).setCell ⟨rk, 3, none⟩ (.slice y.A y.len y.cap)) := ⟨_, rfl⟩
 have hf := blk_set4 hr2 rfl (.int .i64 y.k) (.int .i64 y.n) (.string ⟨y.s.toArray⟩) (.slice y.A y.len y.cap)
 rw [← hWF] at HQ hf
 have HWF := Lib.hid hWF
 have HF4 := Lib.hid hf
 clear hWF hf ht5 hg5 hf5 hrw hb2 hr2 hx2
 go_upto_region 7 with fail
 rw [← hW2, ← hxb]
 clear hW2 hxb
 go_wp2_with fail
 rw [← HWF.out]
 obtain ⟨f0, f1, f2, f3, -⟩ := four_at HF4.out
 exact bodyPost_ret (v := .tuple #[tvV y, .int .i64 0]) (by simp [results, Tryz.results157, go_sem, f0, f1, f2, f3, tvV]) rfl HQ.out
end
end Go.Proofs.YtjdnigepnfeboaaGreatDoor
namespace Go.Proofs.YtjdnigepnfeboaaGreatDoor
open Go.RowKit Go.Maps
set_option maxRecDepth 100000
set_option maxHeartbeats 2000000 in
theorem f_any (w : World) (s : List UInt8) (A : Option Addr) (n c : Nat) : Calls Tryz.prog 9 #[.string ⟨s.toArray⟩, .slice A n c] w fun e w' => e = .returned (tvV ⟨4, 0, s, A, n, c⟩) ∧ Below w.heap.size w w' := by
 go_enter Tryz.func9, Tryz.ntmps9
 go_wp2_with fail
 refine bodyPost_ret (v := tvV ⟨4, 0, s, A, n, c⟩) (by simp [results, Tryz.results9, go_sem, tvV]) rfl ⟨rfl, ?_⟩
 exact (Below.refl _ _).alloc (Nat.le_refl _) _
theorem filter_snoc (k : Int) (l : List (Int × List UInt8)) {q : Nat} {x : Int × List UInt8} (h : l[q]? = some x) : (l.take (q + 1)).filter (fun y => decide (y.1 = k)) = (l.take q).filter (fun y => decide (y.1 = k)) ++ (if x.1 = k then [x] else []) := by
 rw [List.take_add_one, h, List.filter_append]
 congr 1
 by_cases hk : x.1 = k
 ·simp [hk]
 ·simp [hk]
set_option maxHeartbeats 4000000 in
theorem only_any (w : World) (B : Nat) (v : Value) (l : List (Int × List UInt8)) (k : Int) (h : Row w B 45 2 encV v l) (hl : l.length ≤ 100000) :
    Calls Tryz.prog 10 #[v, .int .i64 k] w fun e w' => ∃ A c, e = .returned (.slice A (l.filter (fun y => decide (y.1 = k))).length c) ∧ Below w.heap.size w w' := by
 obtain ⟨P, hP⟩ : ∃ P : Ending → World → Prop, P = fun e w' => ∃ A c, e = .returned (.slice A (l.filter (fun y => decide (y.1 = k))).length c) ∧ Below w.heap.size w w' := ⟨_, rfl⟩
 rw [← hP]
 have HP := Lib.hid hP
 obtain ⟨i0, z0, hi0, hz0, hz1, hz2, hz3⟩ := event_info
 obtain ⟨A, c, rfl⟩ := h.shape
 have H := Lib.hid h
 clear hP h
 go_enter Tryz.func10, Tryz.ntmps10
 go_wp2_with fail
 go_loopw [5, 10] (fun vv i wr => ∃ q : Nat, q ≤ l.length ∧ i = .int .i64 (q : Nat) ∧ Hid (Row wr w.heap.size 45 2 encV vv ((l.take q).filter (fun y => decide (y.1 = k)))) ∧ Hid (Below w.heap.size w wr)) (fun _ i _ => l.length - (intOf i).toNat)
 case atStart => exact ⟨0, Nat.zero_le _, rfl, Lib.hid (Row.nil _ _ _ _ _), Lib.hid (Below.refl _ _)⟩
 case round =>
  obtain ⟨q, hq, rfl, HR, HB⟩ := hrel
  have hwr := HB.out.size
  by_cases hlt : q < l.length
  ·have hx := List.getElem?_eq_getElem hlt
   generalize l[q] = x at hx
   obtain ⟨g, cap, e1, hB, hg, _, hc⟩ := H.out.cells encV_len (by rintro rfl; cases hx)
   injection e1 with e1 e2 e3
   subst e1
   have d0 := (HB.out.cell (p := ⟨g, q * 2, none⟩) hg).trans (by have := (hc q x hx 0 _ rfl).1; simpa using this)
   have d1 := (HB.out.cell (p := ⟨g, q * 2 + 1, none⟩) hg).trans (hc q x hx 1 _ rfl).1
   have hf := filter_snoc k l hx
   have HF := Lib.hid hf
   have hlt1 : (q : Int) < (l.length : Int) := by omega
   have hge : (0 : Int) ≤ (q : Int) := by omega
   have hwq : IntKind.i64.wrap ((q : Int) + 1) = (q : Int) + 1 := IntWalk.i64_in _ (by omega)
   have hlf : ((l.take q).filter (fun y => decide (y.1 = k))).length ≤ l.length := Nat.le_trans (List.length_filter_le _ _) (by rw [List.length_take]; omega)
   have hgl : g < wr.heap.size := by omega
   clear e2 e3 hc hx hf
   obtain ⟨kd, tx⟩ := x
   simp only at d0 d1
   by_cases hk : kd = k
   ·subst hk
    have HFA : Hid ((l.take (q + 1)).filter (fun y => decide (y.1 = kd)) = (l.take q).filter (fun y => decide (y.1 = kd)) ++ [(kd, tx)]) := Lib.hid (by rw [HF.out, if_pos rfl])
    clear HF
    go_wp2_with (at_builtin; refine wpList_row rfl _ _ 29 rfl _ w.heap.size 45 i0 z0 2 24 encV Tryz.underlying29 hi0 hz0 hz1 hz2 hz3 (by decide) encV_len encV_one _ ((l.take q).filter (fun y => decide (y.1 = kd))) (kd, tx) rfl ((HR.out.alloc _).alloc _) (wr.heap.size + 1) 1 rfl (fun j u hu => by have := cell_made (wr.alloc (.cells #[.int .i64 kd, .string ⟨tx.toArray⟩] 45)) #[.int .i64 kd, .string ⟨tx.toArray⟩] 45 j u (by rw [← Array.getElem?_toList]; exact hu); rwa [World.size_alloc] at this) (by unfold maxLen; omega) (by omega) (Nat.le_trans hwr (by rw [World.size_alloc, World.size_alloc]; omega)) ?_)
    intro v' w5 hrow5 hg5
    have HR5 : Hid (Row w5 w.heap.size 45 2 encV v' ((l.take (q + 1)).filter (fun y => decide (y.1 = kd)))) := Lib.hid (by rw [HFA.out]; exact hrow5)
    have HB5 : Hid (Below w.heap.size w w5) := Lib.hid ((((Fr.of_below (fun k => w.heap.size ≤ k) HB.out).alloc _).alloc _ |>.grown hg5 fun g e => .inl (HR.out.lt g e).1).below (Nat.le_refl _) (fun k hk => by omega))
    clear hrow5 hg5
    go_wp2_with fail
    go_roundw
    case rel => exact ⟨q + 1, hlt, by go_num, HR5, HB5⟩
    case measure => simp [intOf]; omega
   ·have HFA : Hid ((l.take (q + 1)).filter (fun y => decide (y.1 = k)) = (l.take q).filter (fun y => decide (y.1 = k))) := Lib.hid (by rw [HF.out, if_neg hk, List.append_nil])
    have hkb : (kd == k) = false := beq_false_of_ne hk
    clear HF
    go_wp2_with fail
    go_roundw
    case rel => exact ⟨q + 1, hlt, by go_num, Lib.hid (by rw [HFA.out]; exact HR.out.later ((Below.refl _ _).alloc (Nat.le_refl _) _)), Lib.hid (HB.out.alloc hwr _)⟩
    case measure => simp [intOf]; omega
  ·obtain rfl : q = l.length := by omega
   rw [List.take_length] at HR
   obtain ⟨A2, c2, e2⟩ := HR.out.shape
   subst e2
   go_wp2_with fail
   rw [HP.out]
   exact ⟨_, _, rfl, HB.out⟩
open Go.Maps
def pvS : Sc := ⟨1, 0, [], [], none⟩
def ppS (a : Nat) : Sc := ⟨4, 0, [112], [a], none⟩
def piS (z : Int) : Sc := ⟨2, z, [], [], none⟩
def factT (z : Int) : Tm := .mk 4 0 [112] [.mk 2 z [] []]
structure PCs (cs : List Sc) : Prop where
 c0 : cs[0]? = some (ppS 1)
 c1 : cs[1]? = some pvS
 vnil : VarNil cs
def moreC (cs : List Sc) (z : Int) : List Sc := cs ++ [ppS (cs.length + 1), piS z]
def boundC (cs : List Sc) (z : Int) : List Sc := putTo (moreC cs z) 1 pvS (some (cs.length + 1))
theorem put_fact (cs : List Sc) (z : Int) : putT (factT z) ⟨cs, []⟩ = (cs.length, ⟨moreC cs z, []⟩) := by
 unfold factT moreC
 simp [putT, putL, ppS, piS]
theorem put_goal : putT (.mk 4 0 [112] [.mk 1 0 [] []]) ⟨[], []⟩ = (0, ⟨[ppS 1, pvS], [(0, 1)]⟩) := by
 simp [putT, putL, mget, ppS, pvS]
theorem PCs.first : PCs [ppS 1, pvS] := ⟨rfl, rfl, fun i c hc hk => by
 match i, hc with
 | 0, hc => injection hc with hc; subst hc; cases hk
 | 1, hc => injection hc with hc; subst hc; rfl⟩
section
variable {cs : List Sc} {z : Int}
theorem PCs.len (h : PCs cs) : 2 ≤ cs.length := by
 have := (List.getElem?_eq_some_iff.1 h.c1).1
 omega
theorem more_at (i : Nat) (c : Sc) (h : cs[i]? = some c) : (moreC cs z)[i]? = some c := by
 unfold moreC
 rw [List.getElem?_append_left (List.getElem?_eq_some_iff.1 h).1]
 exact h
theorem more_h : (moreC cs z)[cs.length]? = some (ppS (cs.length + 1)) := by simp [moreC]
theorem more_a : (moreC cs z)[cs.length + 1]? = some (piS z) := by simp [moreC]
theorem more_len : (moreC cs z).length = cs.length + 2 := by simp [moreC]
theorem PCs.more (h : PCs cs) : PCs (moreC cs z) := ⟨more_at _ _ h.c0, more_at _ _ h.c1, fun i c hc hk => by
 by_cases hi : i < cs.length
 ·unfold moreC at hc
  rw [List.getElem?_append_left hi] at hc
  exact h.vnil i c hc hk
 ·obtain ⟨j, rfl⟩ : ∃ j, i = cs.length + j := ⟨i - cs.length, by omega⟩
  unfold moreC at hc
  rw [List.getElem?_append_right (by omega), Nat.add_sub_cancel_left] at hc
  match j, hc with
  | 0, hc => injection hc with hc; subst hc; cases hk
  | 1, hc => injection hc with hc; subst hc; cases hk⟩
theorem root_at {a j : Nat} {c : Sc} (hc : cs[a]? = some c) (h0 : c.to = none) (h : Root cs a j) : j = a := h.fn (.here hc h0)
theorem uni_p {hd a : Nat} (h0 : cs[0]? = some (ppS 1)) (h1 : cs[1]? = some pvS) (hh : cs[hd]? = some (ppS a)) (ha : cs[a]? = some (piS z)) (hne : hd ≠ 0) {R : Bool × Int} {cs' : List Sc} {bs' : List Nat} (hu : Uni false cs [] [(hd, 0)] 0 R cs' bs') :
    R = (true, 0) ∧ cs' = putTo cs 1 pvS (some a) ∧ bs' = [1] := by
 cases hu with
 | tired hw => omega
 | same ka kb hr => exact absurd ((root_at hh rfl ka).symm.trans (root_at h0 rfl kb)) hne
 | bind ka kb hij hv hx hk hw hr =>
  obtain rfl := root_at hh rfl ka
  obtain rfl := root_at h0 rfl kb
  rcases hv with ⟨rfl, rfl⟩ | ⟨rfl, rfl⟩
  ·rw [hh] at hx
   injection hx with hx
   subst hx
   cases hk
  ·rw [h0] at hx
   injection hx with hx
   subst hx
   cases hk
 | occurs hs => cases hs
 | clash ka kb hx hy hk hk' hn =>
  obtain rfl := root_at hh rfl ka
  obtain rfl := root_at h0 rfl kb
  rw [hh] at hx
  rw [h0] at hy
  injection hx with hx
  injection hy with hy
  subst hx hy
  exact absurd ⟨rfl, rfl, rfl, rfl⟩ hn
 | args ka kb hx hy hk hk' hn hr =>
  obtain rfl := root_at hh rfl ka
  obtain rfl := root_at h0 rfl kb
  rw [hh] at hx
  rw [h0] at hy
  injection hx with hx
  injection hy with hy
  subst hx hy
  have hr' : Uni false cs [] [(a, 1)] 1 R cs' bs' := hr
  clear hr
  cases hr' with
  | tired hw => omega
  | same ka kb hr =>
   obtain rfl := root_at ha rfl ka
   obtain rfl := root_at h1 rfl kb
   rw [h1] at ha
   cases ha
  | bind ka kb hij hv hx hk hw hr =>
   obtain rfl := root_at ha rfl ka
   obtain rfl := root_at h1 rfl kb
   rcases hv with ⟨rfl, rfl⟩ | ⟨rfl, rfl⟩
   ·rw [ha] at hx
    injection hx with hx
    subst hx
    cases hk
   ·rw [h1] at hx
    injection hx with hx
    subst hx
    cases hr with
    | done => exact ⟨rfl, rfl, rfl⟩
  | occurs hs => cases hs
  | clash ka kb hx hy hk hk' hn =>
   obtain rfl := root_at h1 rfl kb
   rw [h1] at hy
   injection hy with hy
   subst hy
   exact absurd rfl hk'
  | args ka kb hx hy hk hk' hn hr =>
   obtain rfl := root_at h1 rfl kb
   rw [h1] at hy
   injection hy with hy
   subst hy
   exact absurd rfl hk'
theorem PCs.uni (h : PCs cs) {R : Bool × Int} {cs' : List Sc} {bs' : List Nat} (hu : Uni false (moreC cs z) [] [(cs.length, 0)] 0 R cs' bs') : R = (true, 0) ∧ cs' = boundC cs z ∧ bs' = [1] :=
 uni_p h.more.c0 h.more.c1 more_h more_a (by have := h.len; omega) hu
theorem PCs.one (h : PCs cs) : (boundC cs z)[1]? = some { pvS with «to» := some (cs.length + 1) } := putTo_at h.more.c1 _
theorem PCs.got (h : PCs cs) : Got (boundC cs z) 1 (.mk 2 z [] []) := by
 have ha : (boundC cs z)[cs.length + 1]? = some (piS z) := (putTo_ne _ _ (by have := h.len; omega)).trans more_a
 exact .part (l := []) (.step h.one rfl (.here ha rfl)) ha (show (2 : Int) ≠ 1 by decide) rfl (fun q a t hq => by cases hq)
theorem PCs.bvnil (h : PCs cs) : VarNil (boundC cs z) := fun i c hc hk => by
 by_cases hi : i = 1
 ·subst hi
  rw [h.one] at hc
  injection hc with hc
  subst hc
  rfl
 ·rw [boundC, putTo_ne _ _ hi] at hc
  exact h.more.vnil i c hc hk
theorem PCs.undo (h : PCs cs) : undoF (boundC cs z) [1] = moreC cs z := by
 show freeF (boundC cs z) 1 = _
 unfold freeF
 rw [h.one]
 show putTo (putTo (moreC cs z) 1 pvS _) 1 _ none = _
 unfold putTo
 rw [List.set_set]
 refine List.ext_getElem? fun i => ?_
 by_cases hi : i = 1
 ·subst hi
  rw [List.getElem?_set_self (by rw [more_len]; have := h.len; omega), h.more.c1]
  rfl
 ·rw [List.getElem?_set_ne (Ne.symm hi)]
end
end Go.Proofs.YtjdnigepnfeboaaGreatDoor
namespace Go.Proofs.YtjdnigepnfeboaaGreatDoor
open Go.RowKit Go.Maps
set_option maxRecDepth 100000
def digB (z : Int) : List UInt8 := if z = 1 then [49] else [50]
section
variable {z : Int} (hz : z = 1 ∨ z = 2) (w : World)
include hz
theorem small_z : Calls Tryz.prog 382 #[.int .i64 z] w fun e w' => e = .returned (.string ⟨(digB z).toArray⟩) ∧ w' = w := by
 rcases hz with rfl | rfl
 all_goals
  go_enter Tryz.func382, Tryz.ntmps382
  go_wp2_with fail
  go_ret
  exact ⟨rfl, rfl⟩
theorem ifmt_z : Calls Tryz.prog 367 #[.int .i64 z, .int .i64 10] w fun e w' => e = .returned (.string ⟨(digB z).toArray⟩) ∧ w' = w := by
 have HS := Lib.hid (small_z hz w)
 rcases hz with rfl | rfl
 all_goals
  go_enter Tryz.func367, Tryz.ntmps367
  go_wp2_with fail
  refine HS.out.mono ?_
  rintro e w1 ⟨rfl, rfl⟩
  go_wp2_with fail
  go_ret
  exact ⟨rfl, rfl⟩
theorem fmt_z : Calls Tryz.prog 338 #[.int .i64 z, .int .i64 10] w fun e w' => e = .returned (.string ⟨(digB z).toArray⟩) ∧ w' = w := by
 have HS := Lib.hid (ifmt_z hz w)
 generalize digB z = D at *
 clear hz
 go_enter Tryz.func338, Tryz.ntmps338
 go_wp2_with fail
 refine HS.out.mono ?_
 rintro e w1 ⟨rfl, rfl⟩
 go_wp2_with fail
 go_ret
 exact ⟨rfl, rfl⟩
theorem print_z : Calls Tryz.prog 294 #[.int .i64 z] w fun e w' => e = .returned (.string ⟨(digB z).toArray⟩) ∧ w' = w := by
 have HS := Lib.hid (fmt_z hz w)
 generalize digB z = D at *
 clear hz
 go_enter Tryz.func294, Tryz.ntmps294
 go_wp2_with fail
 refine HS.out.mono ?_
 rintro e w1 ⟨rfl, rfl⟩
 go_wp2_with fail
 go_ret
 exact ⟨rfl, rfl⟩
end
theorem wbz_info : ∃ i, Tryz.prog.info? 5 = some i ∧ i.zero = some (.int .u8 0) ∧ i.size = 1 ∧ i.bytes = 1 := by
 refine ⟨_, rfl, ?_, ?_, ?_⟩ <;> kernel_rfl
theorem str_enc (s : List UInt8) : Lib.strCells ⟨s.toArray⟩ = s.flatMap encBy := by
 unfold Lib.strCells
 simp only
 induction s with
 | nil => rfl
 | cons c r ih =>
  rw [List.flatMap_cons]
  simp only [List.map_cons] at ih ⊢
  rw [ih]
  rfl
def wrC (wb bt : Nat) (v : Value) : Array Value := #[v, .int .i64 1, .pointer (some ⟨bt, 0, none⟩), .func (.func 270) #[.pointer (some ⟨wb, 0, none⟩)] #[]]
def WrZ (u : World) (wb bt : Nat) (s : List UInt8) (u' : World) : Prop := ∃ v, Row u' (wb + 1) 5 1 encBy v s ∧ u'.heap[wb]? = some (.cells (wrC wb bt v) 394 (0, 0)) ∧ Fr (fun k => k = wb) u u'
set_option maxHeartbeats 4000000 in
theorem wadd_z (u : World) (wb bt : Nat) (s : List UInt8) (hs : s.length ≤ 10) (h : u.heap[wb]? = some (.cells (wrC wb bt (.slice none 0 0)) 394 (0, 0))) :
    Calls Tryz.prog 270 #[.pointer (some ⟨wb, 0, none⟩), .string ⟨s.toArray⟩] u fun e u' => e = .returned (.tuple #[]) ∧ WrZ u wb bt s u' := by
 obtain ⟨i0, hi, hz0, hz1, hz2⟩ := wbz_info
 have hlt := (Array.getElem?_eq_some_iff.1 h).1
 have hsz : (⟨s.toArray⟩ : ByteArray).size = s.length := by simp [ByteArray.size]
 have c0 : u.cell? ⟨wb, 0, none⟩ = some (.slice none 0 0) := (cell_of_row _ _ 0 _ _ _ h).trans rfl
 have HL := Lib.hid (And.intro hs hsz)
 have HB := Lib.hid h
 clear hs hsz h
 go_enter Tryz.func270, Tryz.ntmps270
 go_wp2_with (at_builtin; refine Lib.wpList_append_own_string _ rfl _ _ 289 9 rfl (wb + 1) 5 i0 Tryz.underlying289 Tryz.underlying9 hi hz0 hz1 hz2 _ _ _ rfl (Row.nil (sz := 1) (enc := encBy) u (wb + 1) 5).own ⟨s.toArray⟩ rfl ?c3 ?c4 ?c5 ?_)
 case c3 => rw [HL.out.2]; have := HL.out.1; unfold maxLen; simp only [List.length_nil]; omega
 case c4 => rw [HL.out.2]; have := HL.out.1; simp only [List.length_nil]; omega
 case c5 => omega
 intro v' w2 hown' hgrow _
 rw [str_enc] at hown'
 have hrow : Row w2 (wb + 1) 5 1 encBy v' s := ⟨hown'⟩
 obtain ⟨A2, c2, rfl⟩ := hrow.shape
 have hF : Fr (fun k => k = wb) u w2 := (Fr.refl _ u).grown hgrow fun g e => by cases e
 have hb2 : w2.heap[wb]? = some (.cells (wrC wb bt (.slice none 0 0)) 394 (0, 0)) := (hgrow.block wb hlt (fun e => by cases e)).trans HB.out
 have d0 : w2.cell? ⟨wb, 0, none⟩ = some (.slice none 0 0) := (cell_of_row _ _ 0 _ _ _ hb2).trans rfl
 have df : w2.frozen? ⟨wb, 0, none⟩ = false := by simp [World.frozen?, hb2]
 have HQ : Hid (WrZ u wb bt s (w2.setCell ⟨wb, 0, none⟩ (.slice A2 s.length c2))) := Lib.hid ⟨_, hrow.keep fun k hk => Below.heap_setCell _ _ _ _ (by have := (hrow.lt k hk).1; show k ≠ wb; omega), blk_put hb2 _, hF.setCell (p := ⟨wb, 0, none⟩) (.inl rfl) _⟩
 have hl2 := (Array.getElem?_eq_some_iff.1 hb2).1
 clear hown' hrow hF hb2 hgrow c0
 generalize s.length = m5 at *
 go_wp2_with fail
 go_end0
 exact ⟨rfl, HQ.out⟩
set_option maxHeartbeats 4000000 in
theorem wterm_z {z : Int} (hz : z = 1 ∨ z = 2) (u : World) (wb bt : Nat) (A : Option Addr) (c : Nat) (h : u.heap[wb]? = some (.cells (wrC wb bt (.slice none 0 0)) 394 (0, 0))) :
    Calls Tryz.prog 271 #[.pointer (some ⟨wb, 0, none⟩), .agg #[.int .i64 2, .int .i64 z, .string ⟨#[]⟩, .slice A 0 c], .int .i64 1200] u fun e u' => e = .returned (.tuple #[]) ∧ ∃ w, Below u.heap.size u w ∧ WrZ w wb bt (digB z) u' := by
 obtain ⟨W, hW⟩ : ∃ W, W = u.alloc (.cells #[.int .i64 2, .int .i64 z, .string ⟨#[]⟩, .slice A 0 c] 27) := ⟨_, rfl⟩
 have hb : Below u.heap.size u W := by rw [hW]; exact (Below.refl _ _).alloc (Nat.le_refl _) _
 have hx : W.heap[u.heap.size]? = some (.cells #[.int .i64 2, .int .i64 z, .string ⟨#[]⟩, .slice A 0 c] 27 (0, 0)) := by rw [hW]; exact heap_alloc_new _ _
 have hw := (hb.block _ (Array.getElem?_eq_some_iff.1 h).1).trans h
 have hne : u.heap.size ≠ wb := by have := (Array.getElem?_eq_some_iff.1 h).1; omega
 have HSV : Hid (∀ (v : World) (x : Value), v.heap[wb]? = some (.cells (wrC wb bt x) 394 (0, 0)) → v.heap[u.heap.size]? = W.heap[u.heap.size]? → v.cell? ⟨wb, 3, none⟩ = some (.func (.func 270) #[.pointer (some ⟨wb, 0, none⟩)] #[]) ∧ v.cell? ⟨u.heap.size, 1, none⟩ = some (.int .i64 z)) := Lib.hid fun v x h1 h2 => ⟨(cell_of_row _ _ 3 _ _ _ h1).trans rfl, (cell_of_row _ _ 1 _ _ _ (h2.trans hx)).trans rfl⟩
 have HAD : Hid (Calls Tryz.prog 270 #[.pointer (some ⟨wb, 0, none⟩), .string ⟨(digB z).toArray⟩] W.drew fun e v => e = .returned (.tuple #[]) ∧ WrZ W.drew wb bt (digB z) v ∧ v.cell? ⟨wb, 3, none⟩ = some (.func (.func 270) #[.pointer (some ⟨wb, 0, none⟩)] #[]) ∧ v.cell? ⟨u.heap.size, 1, none⟩ = some (.int .i64 z)) := Lib.hid (by
  refine (wadd_z W.drew wb bt (digB z) (by unfold digB; split <;> decide) hw).mono ?_
  rintro e v ⟨rfl, x, k1, k2, k3⟩
  exact ⟨rfl, ⟨x, k1, k2, k3⟩, HSV.out v x k2 (k3.block _ (Array.getElem?_eq_some_iff.1 hx).1 hne)⟩)
 have HPR := Lib.hid (fun v => print_z hz v)
 have HSD := Lib.hid (HSV.out W.drew _ hw rfl)
 have HB := Lib.hid hb
 obtain ⟨y0, y1, y2, y3, -⟩ := four_at hx
 clear hb hx hw hne h hz HSV
 generalize digB z = D at *
 go_enter Tryz.func271, Tryz.ntmps271
 go_upto_region 6 with fail
 rw [← hW]
 clear hW
 go_region_held3 (fun v => v.cell? ⟨wb, 3, none⟩ = some (.func (.func 270) #[.pointer (some ⟨wb, 0, none⟩)] #[]) ∧ v.cell? ⟨u.heap.size, 1, none⟩ = some (.int .i64 z))
  (first | (with_reducible exact HA1.out) | (with_reducible exact HSD.out))
  (first | (go_at_call 294; with_reducible refine (HPR.out _).mono ?_; rintro e v1 ⟨rfl, rfl⟩) | (go_at_call 270; with_reducible refine HAD.out.mono ?_; rintro e v2 ⟨rfl, k1, k2⟩; have HA1 := Lib.hid k2; have HG := Lib.hid k1; clear k1 k2))
 go_wp2_with fail
 go_end0
 exact ⟨rfl, _, HB.out.drew, HG.out⟩
set_option maxHeartbeats 4000000 in
theorem wput_z {z : Int} (hz : z = 1 ∨ z = 2) (u : World) (bt : Nat) (A : Option Addr) (c : Nat) :
    Calls Tryz.prog 188 #[.agg #[.int .i64 2, .int .i64 z, .string ⟨#[]⟩, .slice A 0 c], .int .i64 1, .pointer (some ⟨bt, 0, none⟩)] u fun e u' => e = .returned (.tuple #[.string ⟨(digB z).toArray⟩, .int .i64 0]) ∧ Below u.heap.size u u' := by
 obtain ⟨W, hW⟩ : ∃ W, W = u.alloc (.cells #[.int .i64 2, .int .i64 z, .string ⟨#[]⟩, .slice A 0 c] 27) := ⟨_, rfl⟩
 have hb : Below u.heap.size u W := by rw [hW]; exact (Below.refl _ _).alloc (Nat.le_refl _) _
 have hx : W.heap[u.heap.size]? = some (.cells #[.int .i64 2, .int .i64 z, .string ⟨#[]⟩, .slice A 0 c] 27 (0, 0)) := by rw [hW]; exact heap_alloc_new _ _
 have HCK : Hid (Calls Tryz.prog 30 #[.agg #[.int .i64 2, .int .i64 z, .string ⟨#[]⟩, .slice A 0 c]] W fun e w => e = .returned (.int .i64 0) ∧ Below W.heap.size W w) := Lib.hid (by
  have := check_any W ⟨2, z, [], A, 0, c⟩ (.mk 2 z [] []) ((TermS.leaf W (fun _ => False) 2 z [] A c (by decide)).at fun b hb => hb.elim) (by simp [Tm.size, Tm.sizes]) (Nat.le_trans (deep_size _) (by simp [Tm.size, Tm.sizes]))
  exact this)
 obtain ⟨y0, y1, y2, y3, -⟩ := four_at hx
 have HB := Lib.hid hb
 have HX := Lib.hid hx
 clear hb hx
 go_enter Tryz.func188, Tryz.ntmps188
 go_upto_region 1 with fail
 rw [← hW]
 clear hW
 go_wp2_with fail
 refine HCK.out.mono ?_
 rintro e W1 ⟨rfl, hb1⟩
 obtain ⟨wb, hwb⟩ : ∃ wb, wb = W1.heap.size := ⟨_, rfl⟩
 obtain ⟨U, hU⟩ : ∃ U, U = W1.alloc (.cells #[.slice none 0 0, .int .i64 1, .pointer (some ⟨bt, 0, none⟩), .func (.func 270) #[.pointer (some ⟨wb, 0, none⟩)] #[]] 394) := ⟨_, rfl⟩
 have hbU : Below W1.heap.size W1 U := by rw [hU]; exact (Below.refl _ _).alloc (Nat.le_refl _) _
 have hu0 : U.heap[wb]? = some (.cells (wrC wb bt (.slice none 0 0)) 394 (0, 0)) := by rw [hU, hwb]; exact heap_alloc_new _ _
 have hx1 := (hb1.block _ (Array.getElem?_eq_some_iff.1 HX.out).1).trans HX.out
 have hxU := (hbU.block _ (Array.getElem?_eq_some_iff.1 hx1).1).trans hx1
 have huU : Below u.heap.size u U := (HB.out.trans (hb1.mono HB.out.size)).trans (hbU.mono (Nat.le_trans HB.out.size hb1.size))
 have HT := Lib.hid (wterm_z hz U wb bt A c hu0)
 have HUU := Lib.hid (And.intro huU (show u.heap.size ≤ wb by rw [hwb]; exact Nat.le_trans HB.out.size hb1.size))
 obtain ⟨f0, f1, f2, f3, -⟩ := four_at hx1
 clear hbU hu0 huU hb1 hx1 y0 y1 y2 y3 HB HX HCK
 go_upto_region 10 with fail
 rw [← hwb, ← hU]
 clear hU hwb f0 f1 f2 f3
 obtain ⟨f0, f1, f2, f3, -⟩ := four_at hxU
 clear hxU
 go_wp2_with fail
 refine HT.out.mono ?_
 rintro e W3 ⟨rfl, w, hw, x, k1, k2, k3⟩
 obtain ⟨A9, c9, rfl⟩ := k1.shape
 have c0 : W3.cell? ⟨wb, 0, none⟩ = some (.slice A9 (digB z).length c9) := (cell_of_row _ _ 0 _ _ _ k2).trans rfl
 have hcv := Row.string Tryz.underlying289 Tryz.underlying5 Tryz.underlying9 k1
 have HQ : Hid (Below u.heap.size u W3) := Lib.hid ((HUU.out.1.trans (hw.mono HUU.out.1.size)).trans (k3.below (Nat.le_trans HUU.out.1.size hw.size) fun k hk e => by have := HUU.out.2; omega))
 clear k1 k2 k3 hw f0 f1 f2 f3
 go_wp2_with fail
 go_ret2
 exact ⟨rfl, HQ.out⟩
end Go.Proofs.YtjdnigepnfeboaaGreatDoor
namespace Go.Proofs.YtjdnigepnfeboaaGreatDoor
open Go.RowKit Go.Maps
set_option maxRecDepth 100000
def EvSl (w : World) (A : Option Addr) (l : List (Int × List UInt8)) : Prop := ∀ q x, l[q]? = some x → ∃ g off, A = some ⟨g, off, none⟩ ∧ w.cell? ⟨g, off + q * 2, none⟩ = some (.int .i64 x.1) ∧ w.cell? ⟨g, off + q * 2 + 1, none⟩ = some (.string ⟨x.2.toArray⟩)
theorem EvSl.row {w : World} {B : Nat} {A : Option Addr} {n c : Nat} {l : List (Int × List UInt8)} (h : Row w B 45 2 encV (.slice A n c) l) : EvSl w A l := fun q x hx => by
 obtain ⟨g, cap, e1, -, -, -, hc⟩ := h.cells encV_len (by rintro rfl; cases hx)
 injection e1 with e1
 refine ⟨g, 0, e1, ?_, ?_⟩
 ·rw [Nat.zero_add]; exact (hc q x hx 0 _ rfl).1
 ·rw [Nat.zero_add]; exact (hc q x hx 1 _ rfl).1
set_option maxHeartbeats 1000000 in
theorem same_ev (w : World) (A1 A2 : Option Addr) (n c1 c2 : Nat) (l : List (Int × List UInt8)) (h1 : EvSl w A1 l) (h2 : EvSl w A2 l) (hn : l.length = n) (hl : n ≤ 100000) :
    Calls Tryz.prog 13 #[.slice A1 n c1, .slice A2 n c2] w fun e w' => e = .returned (.bool true) ∧ Below w.heap.size w w' := by
 subst hn
 have HA1 := Lib.hid h1
 have HA2 := Lib.hid h2
 clear h1 h2
 go_enter Tryz.func13, Tryz.ntmps13
 go_wp2_with fail
 go_loopw [13] (fun i wr => ∃ k nq : Nat, k ≤ l.length ∧ i = .int .i64 k ∧ wr = w.drewN nq) (fun i _ => l.length - (intOf i).toNat)
 case atStart => exact ⟨0, 0, Nat.zero_le _, rfl, rfl⟩
 case round =>
  obtain ⟨k, nq, hk, rfl, rfl⟩ := hrel
  by_cases hlt : k < l.length
  ·have hx := List.getElem?_eq_getElem hlt
   generalize l[k] = x at hx
   obtain ⟨b1, o1, e1, c0, c1⟩ := HA1.out k x hx
   obtain ⟨b2, o2, e2, d0, d1⟩ := HA2.out k x hx
   have hlt' : (k : Int) < (l.length : Int) := by omega
   clear hx
   subst e1 e2
   go_wp2_with fail
   go_quiet (fail)
   go_wp2
   go_roundw
   case rel => exact ⟨k + 1, _, hlt, by go_num, rfl⟩
   case measure => simp [intOf]; omega
  ·have hkn : k = l.length := by omega
   subst hkn
   go_wp2
   go_ret
   exact ⟨rfl, rfl, rfl, rfl, Nat.le_refl _, fun _ _ => rfl⟩
end Go.Proofs.YtjdnigepnfeboaaGreatDoor
