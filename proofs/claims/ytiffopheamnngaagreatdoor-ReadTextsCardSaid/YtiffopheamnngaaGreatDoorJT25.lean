import Derived.Test.YtiffopheamnngaaGreatDoorJT10
namespace Go.Proofs.YtiffopheamnngaaGreatDoor
theorem Meet.back {o : OpsF} {ts : List Tok} {s : RdS} {q : QS} {M : RdO} {E : Except Nat ((Tm × Int) × QS)} (k : Nat) (h : Meet o ts (s.go k) (q.go k) M E) : Meet o ts s q M E :=
 ⟨h.bad, fun x q' e => by
  obtain ⟨h1, h2, h3⟩ := h.good x q' e
  exact ⟨h1, by simp only [QS.go] at h2; omega, h3⟩⟩
theorem atom_meet {o : OpsF} {ts : List Tok} {s : RdS} {q : QS} (hF : Fit s q) (k : Nat) (hk : 0 < k) (x : Tm) : Meet o ts s q (endF o ts ((s.go k).done x 0)) (.ok ((x, 0), q.go k)) := by
 refine Meet.ok hF.no (by simp only [QS.go]; omega) ?_
 rw [done_put (hF.go k)]
 rfl
theorem pair_meet {o : OpsF} {ts : List Tok} {T : QT} {n : Nat} (hT : SimT o ts T n) (s : RdS) (q : QS) (hF : Fit s q) (c d : UInt8) (most : Int) (hs : (peekF ts q.at').s = [d]) (hn : ts.length - (q.go 2).at' < n) :
    Meet o ts s q (contE o ts (pairF ts s c)) (namedQ o ts T [d, c] (peekF ts (q.at' + 1)).opn false most (q.go 2)) := by
 unfold pairF
 rw [hF.at', hs]
 dsimp only
 cases ho : (peekF ts (q.at' + 1)).opn with
 | true =>
  rw [if_pos rfl]
  exact (args_meet hT (s.go 2) (q.go 2) (hF.go 2) [d, c] false most hn).back
 | false =>
  rw [if_neg (by decide)]
  unfold namedQ
  rw [if_neg (by decide), if_neg (fun e => by cases e.1)]
  exact atom_meet hF 2 (by omega) (atomT [d, c])
theorem prim_meet {o : OpsF} {ts : List Tok} {T : QT} {n : Nat} (hT : SimT o ts T n) (s : RdS) (q : QS) (hv : s.hv = false) (hF : Fit s q) (hn : ts.length - q.at' < n + 1) : Meet o ts s q (endF o ts s) (primaryQ o ts T s.most q) := by
 rw [end_prim hv]
 have hg : ∀ k, 0 < k → (peekF ts q.at').kind ≠ 0 → ts.length - (q.go k).at' < n := fun k hk h => by
  have := peek_lt h
  simp only [QS.go]
  omega
 unfold primaryF primaryQ
 rw [hF.at']
 dsimp only
 generalize ht : peekF ts q.at' = t
 rw [ht] at hg
 split
 ·rename_i h3
  split
  ·exact Meet.err rfl
  ·exact atom_meet hF 1 (by omega) _
 ·split
  ·obtain ⟨v1, v2, v3⟩ := var_sim (hF.go 1) t.s
   refine Meet.ok v2 (by rw [v3]; simp only [QS.go]; omega) ?_
   show endF o ts (varF (s.go 1) t.s) = _
   rw [v1]
   rfl
  ·split
   ·exact atom_meet hF 1 (by omega) _
   ·split
    ·rename_i h6
     have hk : t.kind ≠ 0 := by rw [h6]; decide
     have hlt : q.at' < ts.length := peek_lt (by rw [ht]; exact hk)
     unfold punctF
     rw [hF.at']
     split
     ·exact paren_meet hT s q hF (hg 1 (by omega) hk)
     ·split
      ·rename_i h91
       cases hp : isP ts (q.at' + 1) 93 with
       | true =>
        rw [if_pos rfl, if_pos rfl]
        exact pair_meet hT s q hF 93 91 s.most (by rw [ht]; exact h91) (hg 2 (by omega) hk)
       | false =>
        rw [if_neg (by decide), if_neg (by decide)]
        exact list_meet hT s q hF (hg 1 (by omega) hk) hlt
      ·split
       ·rename_i h123
        cases hp : isP ts (q.at' + 1) 125 with
        | true =>
         rw [if_pos rfl, if_pos rfl]
         exact pair_meet hT s q hF 125 123 s.most (by rw [ht]; exact h123) (hg 2 (by omega) hk)
        | false =>
         rw [if_neg (by decide), if_neg (by decide)]
         exact brace_meet hT s q hF (hg 1 (by omega) hk)
       ·exact Meet.err rfl
    ·split
     ·rename_i h12
      have hk : t.kind ≠ 0 := by rcases h12 with h | h <;> rw [h] <;> decide
      unfold atomF
      rw [hF.at']
      dsimp only
      split
      ·exact atom_meet hF 2 (by omega) _
      ·cases ho : t.opn with
       | true =>
        rw [if_pos rfl]
        exact (args_meet hT (s.go 1) (q.go 1) (hF.go 1) t.s true s.most (hg 1 (by omega) hk)).back
       | false =>
        rw [if_neg (show ¬ (false = true) by decide)]
        unfold namedQ
        rw [if_neg (show ¬ (false = true) by decide)]
        by_cases hc : 0 < (o.pre t.s).1 ∧ (o.pre t.s).1 ≤ s.most ∧ beginsF o (peekF ts (q.at' + 1)) = true
        ·rw [if_pos hc, if_pos ⟨rfl, hc⟩]
         exact (prefix_meet hT (s.go 1) (q.go 1) (hF.go 1) t.s (hg 1 (by omega) hk)).back
        ·rw [if_neg hc, if_neg (fun e => hc e.2)]
         exact atom_meet hF 1 (by omega) _
     ·exact Meet.err rfl
theorem loop_sim {o : OpsF} {ts : List Tok} {T : QT} {n : Nat} (hT : SimT o ts T n) : ∀ (k : Nat) (s : RdS) (q : QS) (x : Tm) (p : Int), (∀ y ∈ q.names, y.1 ≠ [95]) → ts.length - q.at' < n + 1 → ts.length - q.at' < k →
    (∀ a, loopQ o ts T s.most k x p q = .error a → endF o ts (s.put q x p) = .bad a) ∧
    (∀ y q', loopQ o ts T s.most k x p q = .ok (y, q') → (∀ z ∈ q'.names, z.1 ≠ [95]) ∧ q.at' ≤ q'.at' ∧ operatorF o ts (s.put q' y.1 y.2) = none ∧ endF o ts (s.put q x p) = endF o ts (s.put q' y.1 y.2))
 | 0, _, _, _, _, _, _, hk => absurd hk (Nat.not_lt_zero _)
 | k + 1, s, q, x, p, hno, hn, hk => by
  have hop : operatorF o ts (s.put q x p) = (
   if (peekF ts q.at').kind ≠ 1 ∧ (peekF ts q.at').kind ≠ 2 ∧ isP ts q.at' 44 = false then none
   else if 0 < (o.inf (peekF ts q.at').s).1 ∧ (o.inf (peekF ts q.at').s).1 ≤ s.most ∧ p ≤ (o.inf (peekF ts q.at').s).2.1 then some (((s.put q x p).go 1).await ⟨6, 0, (peekF ts q.at').s, (o.inf (peekF ts q.at').s).1, [x]⟩ (o.inf (peekF ts q.at').s).2.2)
   else if 0 < (o.post (peekF ts q.at').s).1 ∧ (o.post (peekF ts q.at').s).1 ≤ s.most ∧ p ≤ (o.post (peekF ts q.at').s).2 then some (((s.put q x p).go 1).done (compT (peekF ts q.at').s [x]) (o.post (peekF ts q.at').s).1)
   else none) := rfl
  have hlt : ¬ ((peekF ts q.at').kind ≠ 1 ∧ (peekF ts q.at').kind ≠ 2 ∧ isP ts q.at' 44 = false) → q.at' < ts.length := fun h => by
   by_cases h1 : (peekF ts q.at').kind = 1
   ·exact peek_lt (by rw [h1]; decide)
   ·by_cases h2 : (peekF ts q.at').kind = 2
    ·exact peek_lt (by rw [h2]; decide)
    ·cases h3 : isP ts q.at' 44 with
     | true => exact isP_lt h3
     | false => exact absurd ⟨h1, h2, h3⟩ h
  unfold loopQ
  dsimp only
  generalize ht : peekF ts q.at' = t at hop hlt
  by_cases h0 : t.kind ≠ 1 ∧ t.kind ≠ 2 ∧ isP ts q.at' 44 = false
  ·rw [if_pos h0] at hop ⊢
   refine ⟨fun a e => (by cases e), fun y q' e => ?_⟩
   injection e with e
   injection e with e1 e2
   subst e1 e2
   exact ⟨hno, Nat.le_refl _, hop, rfl⟩
  ·have hl := hlt h0
   rw [if_neg h0] at hop ⊢
   by_cases h1 : 0 < (o.inf t.s).1 ∧ (o.inf t.s).1 ≤ s.most ∧ p ≤ (o.inf t.s).2.1
   ·rw [if_pos h1] at hop ⊢
    have e0 := end_op (o := o) (ts := ts) (s := s.put q x p) rfl hop
    obtain ⟨t1, t2⟩ := hT (((s.put q x p).go 1).await ⟨6, 0, t.s, (o.inf t.s).1, [x]⟩ (o.inf t.s).2.2) (q.go 1) rfl ⟨rfl, rfl, rfl, rfl, hno⟩ (by simp only [QS.go]; omega)
    cases hy : T (o.inf t.s).2.2 (q.go 1) with
    | error a =>
     refine ⟨fun b e => ?_, fun y q' e => (by cases e)⟩
     injection e with e
     rw [e0, ← e]
     exact t1 a hy
    | ok yq =>
     obtain ⟨y, q1⟩ := yq
     obtain ⟨n1, lt1, op1, e1⟩ := t2 y q1 hy
     rw [end_back (f := ⟨6, s.most, t.s, (o.inf t.s).1, [x]⟩) (r := s.wait) rfl op1 rfl] at e1
     have e2 : endF o ts (s.put q x p) = endF o ts (s.put q1 (compT t.s [x, y.1]) (o.inf t.s).1) := e0.trans e1
     have lt2 : q.at' + 1 < q1.at' := lt1
     obtain ⟨i1, i2⟩ := loop_sim hT k s q1 (compT t.s [x, y.1]) (o.inf t.s).1 n1 (by omega) (by omega)
     refine ⟨fun a e => e2.trans (i1 a e), fun z q' e => ?_⟩
     obtain ⟨j1, j2, j3, j4⟩ := i2 z q' e
     exact ⟨j1, by omega, j3, e2.trans j4⟩
   ·rw [if_neg h1] at hop ⊢
    by_cases h2 : 0 < (o.post t.s).1 ∧ (o.post t.s).1 ≤ s.most ∧ p ≤ (o.post t.s).2
    ·rw [if_pos h2] at hop ⊢
     have e0 := end_op (o := o) (ts := ts) (s := s.put q x p) rfl hop
     have e2 : endF o ts (s.put q x p) = endF o ts (s.put (q.go 1) (compT t.s [x]) (o.post t.s).1) := e0
     obtain ⟨i1, i2⟩ := loop_sim hT k s (q.go 1) (compT t.s [x]) (o.post t.s).1 hno (by simp only [QS.go]; omega) (by simp only [QS.go]; omega)
     refine ⟨fun a e => e2.trans (i1 a e), fun z q' e => ?_⟩
     obtain ⟨j1, j2, j3, j4⟩ := i2 z q' e
     exact ⟨j1, by simp only [QS.go] at j2; omega, j3, e2.trans j4⟩
    ·rw [if_neg h2] at hop ⊢
     refine ⟨fun a e => (by cases e), fun y q' e => ?_⟩
     injection e with e
     injection e with e1 e2
     subst e1 e2
     exact ⟨hno, Nat.le_refl _, hop, rfl⟩
theorem term_sim (o : OpsF) (ts : List Tok) : ∀ n, SimT o ts (termQ o ts n) n
 | 0 => fun _ _ _ _ h => absurd h (Nat.not_lt_zero _)
 | n + 1 => fun s q hv hF hn => by
  have hP := prim_meet (term_sim o ts n) s q hv hF hn
  have ht : termQ o ts (n + 1) s.most q = (match primaryQ o ts (termQ o ts n) s.most q with
   | .error a => .error a
   | .ok (x, s1) => loopQ o ts (termQ o ts n) s.most (ts.length + 1) x.1 x.2 s1) := rfl
  rw [ht]
  cases hx : primaryQ o ts (termQ o ts n) s.most q with
  | error a =>
   refine ⟨fun b e => ?_, fun x q' e => (by cases e)⟩
   injection e with e
   rw [← e]
   exact hP.bad a hx
  | ok xq =>
   obtain ⟨x, q1⟩ := xq
   obtain ⟨n1, lt1, e1⟩ := hP.good x q1 hx
   obtain ⟨i1, i2⟩ := loop_sim (term_sim o ts n) (ts.length + 1) s q1 x.1 x.2 n1 (by omega) (by omega)
   refine ⟨fun a e => e1.trans (i1 a e), fun z q' e => ?_⟩
   obtain ⟨j1, j2, j3, j4⟩ := i2 z q' e
   exact ⟨j1, by omega, j3, e1.trans j4⟩
theorem readQ_eq (o : OpsF) (ts : List Tok) (i : Int) : readQ o ts i = readF o ts i := by
 unfold readQ readF
 split
 ·rfl
 ·obtain ⟨t1, t2⟩ := term_sim o ts (ts.length + 1) (startF i.toNat) ⟨i.toNat, 0, []⟩ rfl ⟨rfl, rfl, rfl, rfl, fun _ h => by cases h⟩ (by simp only; omega)
  show _ = (match endF o ts (startF i.toNat) with | .on _ => _ | .bad a => _ | .fin s => _)
  cases hx : termQ o ts (ts.length + 1) 1200 ⟨i.toNat, 0, []⟩ with
  | error a => rw [t1 a hx]
  | ok xq =>
   obtain ⟨x, q⟩ := xq
   obtain ⟨n1, lt1, op1, e1⟩ := t2 x q hx
   rw [e1, end_step]
   unfold roundF
   rw [if_neg (by simp [RdS.put]), op1]
   have hw : ((startF i.toNat).put q x.1 x.2).wait = [] := rfl
   rw [hw]
   dsimp only
   by_cases hk : (peekF ts q.at').kind ≠ 7
   ·rw [if_pos hk, if_pos (show (peekF ts ((startF i.toNat).put q x.1 x.2).at').kind ≠ 7 from hk)]
    rfl
   ·rw [if_neg hk, if_neg (show ¬ (peekF ts ((startF i.toNat).put q x.1 x.2).at').kind ≠ 7 from hk)]
    rfl
theorem sizes_append : ∀ l r : List Tm, Tm.sizes (l ++ r) = Tm.sizes l + Tm.sizes r
 | [], r => by simp [Tm.sizes]
 | t :: l, r => by rw [List.cons_append, Tm.sizes, Tm.sizes, sizes_append l r]; omega
theorem sizes_one (t : Tm) : Tm.sizes [t] = t.size := by simp [Tm.sizes]
theorem size_comp (s : List UInt8) (l : List Tm) : (compT s l).size = 1 + Tm.sizes l := rfl
theorem size_list : ∀ (l : List Tm) (t : Tm), (listT l t).size = Tm.sizes l + l.length + t.size
 | [], t => by simp [listT, Tm.sizes]
 | x :: l, t => by
  rw [show listT (x :: l) t = compT [46] [x, listT l t] from rfl, size_comp, Tm.sizes, sizes_one, size_list l t, Tm.sizes, List.length_cons]
  omega
theorem sizes_ints : ∀ s : List UInt8, Tm.sizes (s.map fun c => intT c.toNat) = s.length
 | [] => rfl
 | c :: s => by rw [List.map_cons, Tm.sizes, sizes_ints s, List.length_cons]; simp [intT, Tm.size, Tm.sizes]; omega
def potW : List WaitF → Nat
 | [] => 0
 | f :: r => 1 + (Tm.sizes f.l + f.l.length) + potW r
def RdS.pot (s : RdS) : Nat := (if s.hv = true then s.t.size else 0) + potW s.wait
def vol (ts : List Tok) (n : Nat) : Nat := ((ts.take n).map fun t => 2 + 2 * t.s.length).sum
theorem vol_one {ts : List Tok} {n : Nat} (h : n < ts.length) : vol ts (n + 1) = vol ts n + (2 + 2 * (peekF ts n).s.length) := by
 unfold vol peekF
 rw [List.take_succ_eq_append_getElem h, List.map_append, List.sum_append, List.getD_eq_getElem?_getD, List.getElem?_eq_getElem h]
 simp
theorem vol_two {ts : List Tok} {n : Nat} (h : n + 1 < ts.length) : vol ts n + 4 ≤ vol ts (n + 2) := by
 rw [vol_one h, vol_one (show n < ts.length by omega)]
 omega
theorem vol_le1 {ts : List Tok} {n : Nat} (h : n < ts.length) : vol ts n + 2 ≤ vol ts (n + 1) := by
 rw [vol_one h]
 omega
def Pays (ts : List Tok) (p a : Nat) (s' : RdS) : Prop := s'.pot + vol ts a ≤ p + vol ts s'.at'
section
variable {o : OpsF} {ts : List Tok} {s s' : RdS}
theorem pot_done (s : RdS) (t : Tm) (p : Int) : (s.done t p).pot = t.size + potW s.wait := rfl
theorem pot_await (s : RdS) (f : WaitF) (m : Int) : (s.await f m).pot = 0 + (1 + (Tm.sizes f.l + f.l.length) + potW s.wait) := rfl
theorem pot_again (s : RdS) (f : WaitF) (m : Int) : (s.again f m).pot = 0 + (1 + (Tm.sizes f.l + f.l.length) + potW s.wait) := rfl
theorem args_pays {n : List UInt8} (h : argsF ts s n = .ok s') : Pays ts (potW s.wait) s.at' s' := by
 obtain ⟨rfl, h2⟩ := args_ok h
 unfold Pays
 rw [pot_await]
 have := vol_le1 h2
 simp only [Tm.sizes, List.length_nil]
 show _ ≤ _ + vol ts (s.at' + 1)
 rw [go_wait]
 omega
theorem pair_pays {c : UInt8} (hl : s.at' + 1 < ts.length) (h : pairF ts s c = .ok s') : Pays ts (potW s.wait) s.at' s' := by
 unfold pairF at h
 dsimp only at h
 have h2 := vol_two hl
 split at h
 ·have := args_pays h
  unfold Pays at this ⊢
  rw [go_wait, go_at] at this
  omega
 ·injection h with h
  subst h
  unfold Pays
  rw [pot_done, go_wait]
  show _ ≤ _ + vol ts (s.at' + 2)
  have e : (atomT ((peekF ts s.at').s ++ [c])).size = 1 := rfl
  rw [e]
  omega
theorem punct_pays {x : List UInt8} (hl : s.at' < ts.length) (h : punctF ts s x = .ok s') : Pays ts (potW s.wait) s.at' s' := by
 have h1 := vol_le1 hl
 have aw : ∀ (f : WaitF) (m : Int), f.l = [] → Pays ts (potW s.wait) s.at' ((s.go 1).await f m) := fun f m hf => by
  unfold Pays
  rw [pot_await, hf, go_wait]
  show _ ≤ _ + vol ts (s.at' + 1)
  simp only [Tm.sizes, List.length_nil]
  omega
 unfold punctF at h
 split at h
 ·injection h with h
  subst h
  exact aw _ _ rfl
 ·split at h
  ·split at h
   ·rename_i hp
    exact pair_pays (isP_lt hp) h
   ·injection h with h
    subst h
    exact aw _ _ rfl
  ·split at h
   ·split at h
    ·rename_i hp
     exact pair_pays (isP_lt hp) h
    ·injection h with h
     subst h
     exact aw _ _ rfl
   ·cases h
theorem atom_pays {t : Tok} (hl : s.at' < ts.length) (h : atomF o ts s t = .ok s') : Pays ts (potW s.wait) s.at' s' := by
 have h1 := vol_le1 hl
 unfold atomF at h
 dsimp only at h
 split at h
 ·rename_i hc
  have h2 := vol_two (show s.at' + 1 < ts.length from peek_lt (by rw [hc.2.2.1]; decide))
  injection h with h
  subst h
  unfold Pays
  rw [pot_done, go_wait]
  show _ ≤ _ + vol ts (s.at' + 2)
  have e : (intT (negI (peekF ts (s.at' + 1)).n)).size = 1 := rfl
  rw [e]
  omega
 ·split at h
  ·have := args_pays h
   unfold Pays at this ⊢
   rw [go_wait, go_at] at this
   omega
  ·split at h
   ·injection h with h
    subst h
    unfold Pays
    rw [pot_await, go_wait]
    show _ ≤ _ + vol ts (s.at' + 1)
    simp only [Tm.sizes, List.length_nil]
    omega
   ·injection h with h
    subst h
    unfold Pays
    rw [pot_done, go_wait]
    show _ ≤ _ + vol ts (s.at' + 1)
    have e : (atomT t.s).size = 1 := rfl
    rw [e]
    omega
theorem primary_pays (h : primaryF o ts s = .ok s') : Pays ts (potW s.wait) s.at' s' := by
 unfold primaryF at h
 dsimp only at h
 split at h
 ·rename_i hk
  have h1 := vol_le1 (show s.at' < ts.length from peek_lt (by rw [hk]; decide))
  split at h
  ·cases h
  ·injection h with h
   subst h
   unfold Pays
   rw [pot_done, go_wait]
   show _ ≤ _ + vol ts (s.at' + 1)
   have e : (intT (peekF ts s.at').n).size = 1 := rfl
   rw [e]
   omega
 ·split at h
  ·rename_i hk
   have h1 := vol_le1 (show s.at' < ts.length from peek_lt (by rw [hk]; decide))
   injection h with h
   subst h
   obtain ⟨g1, g2, g3⟩ := var_at (s.go 1) (peekF ts s.at').s
   have e : (varF (s.go 1) (peekF ts s.at').s).t.size = 1 := by
    unfold varF
    split
    ·rfl
    ·dsimp only
     split <;> rfl
   unfold Pays RdS.pot
   rw [g1, g2, g3, if_pos rfl, e, go_wait, go_at]
   omega
  ·split at h
   ·rename_i hk
    have h1 := vol_one (show s.at' < ts.length from peek_lt (by rw [hk]; decide))
    injection h with h
    subst h
    unfold Pays
    rw [pot_done, go_wait, size_list, sizes_ints, List.length_map]
    show _ ≤ _ + vol ts (s.at' + 1)
    have e : nilT.size = 1 := rfl
    rw [e]
    omega
   ·split at h
    ·rename_i hk
     exact punct_pays (peek_lt (by rw [hk]; decide)) h
    ·split at h
     ·rename_i hk
      exact atom_pays (peek_lt (by rcases hk with hk | hk <;> rw [hk] <;> decide)) h
     ·cases h
theorem operator_pays (h : operatorF o ts s = some s') : Pays ts (s.t.size + potW s.wait) s.at' s' := by
 unfold operatorF at h
 dsimp only at h
 split at h
 ·cases h
 ·rename_i hk
  have hl : s.at' < ts.length := by
   by_cases h1 : (peekF ts s.at').kind = 1
   ·exact peek_lt (by rw [h1]; decide)
   ·by_cases h2 : (peekF ts s.at').kind = 2
    ·exact peek_lt (by rw [h2]; decide)
    ·cases h3 : isP ts s.at' 44 with
     | true => exact isP_lt h3
     | false => exact absurd ⟨h1, h2, h3⟩ hk
  have h1 := vol_le1 hl
  split at h
  ·injection h with h
   subst h
   unfold Pays
   rw [pot_await, go_wait]
   show _ ≤ _ + vol ts (s.at' + 1)
   simp only [sizes_one, List.length_cons, List.length_nil]
   omega
  ·split at h
   ·injection h with h
    subst h
    unfold Pays
    rw [pot_done, go_wait, size_comp, sizes_one]
    show _ ≤ _ + vol ts (s.at' + 1)
    omega
   ·cases h
theorem backG_pays {f : WaitF} (h : backG ts s f = .ok s') : Pays ts (s.t.size + (1 + (Tm.sizes f.l + f.l.length) + potW s.wait)) s.at' s' := by
 have ex : ∀ (c : UInt8) (g : RdS → RdS) (k : Nat), (s.expect ts c).map g = .ok s' → (∀ x, (g x).at' = x.at') → (g (s.go 1)).pot ≤ k → k ≤ s.t.size + (1 + (Tm.sizes f.l + f.l.length) + potW s.wait) + 2 → Pays ts (s.t.size + (1 + (Tm.sizes f.l + f.l.length) + potW s.wait)) s.at' s' := fun c g k h1 h2 h3 h4 => by
  obtain ⟨rfl, h5⟩ := expect_map h1
  have := vol_le1 h5
  unfold Pays
  rw [h2]
  show _ ≤ _ + vol ts (s.at' + 1)
  omega
 have ag : ∀ (g : WaitF), s.at' < ts.length → g.l = f.l ++ [s.t] → s' = (s.go 1).again g 999 → Pays ts (s.t.size + (1 + (Tm.sizes f.l + f.l.length) + potW s.wait)) s.at' s' := fun g h1 h2 h3 => by
  subst h3
  have := vol_le1 h1
  unfold Pays
  rw [pot_again, h2, sizes_append, sizes_one, List.length_append, List.length_cons, List.length_nil, go_wait]
  show _ ≤ _ + vol ts (s.at' + 1)
  omega
 unfold backG at h
 split at h
 ·exact ex 41 _ (s.t.size + potW s.wait) h (fun _ => rfl) (Nat.le_refl _) (by omega)
 ·split at h
  ·exact ex 125 _ (1 + s.t.size + potW s.wait) h (fun _ => rfl) (by rw [pot_done, size_comp, sizes_one]; exact Nat.le_refl _) (by omega)
  ·split at h
   ·injection h with h
    subst h
    unfold Pays
    rw [pot_done, size_comp, sizes_one]
    show _ ≤ _ + vol ts s.at'
    omega
   ·split at h
    ·injection h with h
     subst h
     unfold Pays
     rw [pot_done, size_comp, sizes_append, sizes_one]
     show _ ≤ _ + vol ts s.at'
     omega
    ·split at h
     ·dsimp only at h
      split at h
      ·rename_i hp
       injection h with h
       exact ag _ (isP_lt hp) rfl h.symm
      ·exact ex 41 _ (1 + (Tm.sizes f.l + s.t.size) + potW s.wait) h (fun _ => rfl) (by rw [pot_done, size_comp, sizes_append, sizes_one]; exact Nat.le_refl _) (by omega)
     ·split at h
      ·dsimp only at h
       split at h
       ·rename_i hp
        injection h with h
        exact ag _ (isP_lt hp) rfl h.symm
       ·split at h
        ·rename_i hp
         injection h with h
         exact ag _ (isP_lt hp) rfl h.symm
        ·exact ex 93 _ (Tm.sizes f.l + s.t.size + (f.l.length + 1) + 1 + potW s.wait) h (fun _ => rfl) (by rw [pot_done, size_list, sizes_append, sizes_one, List.length_append]; exact Nat.le_refl _) (by omega)
      ·split at h
       ·exact ex 93 _ (Tm.sizes f.l + f.l.length + s.t.size + potW s.wait) h (fun _ => rfl) (by rw [pot_done, size_list]; exact Nat.le_refl _) (by omega)
       ·injection h with h
        subst h
        unfold Pays RdS.pot
        split <;> omega
theorem round_pays (h : roundF o ts s = .on s') : s'.pot + vol ts s.at' ≤ s.pot + vol ts s'.at' := by
 unfold roundF at h
 split at h
 ·rename_i hv
  cases hp : primaryF o ts s with
  | error a => rw [hp] at h; cases h
  | ok x =>
   rw [hp] at h
   injection h with h
   subst h
   have := primary_pays hp
   unfold Pays at this
   have hs : s.pot = 0 + potW s.wait := by unfold RdS.pot; rw [if_neg (by rw [hv]; decide)]
   omega
 ·rename_i hv
  have hs : s.pot = s.t.size + potW s.wait := by unfold RdS.pot; rw [if_pos (by simpa using hv)]
  split at h
  ·rename_i x hx
   injection h with h
   subst h
   have := operator_pays hx
   unfold Pays at this
   omega
  ·split at h
   ·rename_i f r hw
    cases hb : backF ts s f r with
    | error a => rw [hb] at h; cases h
    | ok x =>
     rw [hb] at h
     injection h with h
     subst h
     have := backG_pays (s := { s with wait := r, most := f.most }) hb
     unfold Pays at this
     rw [hw] at hs
     simp only [potW] at hs
     simp only at this
     omega
   ·split at h
    ·cases h
    ·cases h
end
theorem fin_of {o : OpsF} {ts : List Tok} {s s1 : RdS} (h : roundF o ts s = .fin s1) : s1 = s ∧ s.hv = true := by
 unfold roundF at h
 split at h
 ·cases hp : primaryF o ts s <;> rw [hp] at h <;> cases h
 ·rename_i hv
  split at h
  ·cases h
  ·split at h
   ·rename_i f r hw
    cases hb : backF ts s f r <;> rw [hb] at h <;> cases h
   ·split at h
    ·cases h
    ·injection h with h
     exact ⟨h.symm, by simpa using hv⟩
theorem end_pays (o : OpsF) (ts : List Tok) : ∀ (n : Nat) (s sf : RdS), leftF ts s ≤ n → endF o ts s = .fin sf → sf.pot + vol ts s.at' ≤ s.pot + vol ts sf.at' ∧ sf.hv = true := by
 intro n
 induction n with
 | zero =>
  intro s sf hn he
  rw [end_step] at he
  cases hr : roundF o ts s with
  | on s1 => have := round_less hr; omega
  | bad a => rw [hr] at he; cases he
  | fin s1 =>
   rw [hr] at he
   have hx : s1 = sf := by injection he
   subst hx
   obtain ⟨rfl, h2⟩ := fin_of hr
   exact ⟨Nat.le_refl _, h2⟩
 | succ n ih =>
  intro s sf hn he
  rw [end_step] at he
  cases hr : roundF o ts s with
  | on s1 =>
   rw [hr] at he
   simp only at he
   have h1 := round_less hr
   have h2 := round_pays hr
   obtain ⟨h3, h4⟩ := ih s1 sf (by omega) he
   exact ⟨by omega, h4⟩
  | bad a => rw [hr] at he; cases he
  | fin s1 =>
   rw [hr] at he
   have hx : s1 = sf := by injection he
   subst hx
   obtain ⟨rfl, h2⟩ := fin_of hr
   exact ⟨Nat.le_refl _, h2⟩
theorem sum_le : ∀ (l : List Nat) (k : Nat), (l.take k).sum ≤ l.sum
 | [], k => by simp
 | x :: l, 0 => by simp
 | x :: l, k + 1 => by
  have := sum_le l k
  simp only [List.take_succ_cons, List.sum_cons]
  omega
theorem vol_all (ts : List Tok) (n : Nat) : vol ts n ≤ vol ts ts.length := by
 unfold vol
 rw [List.take_length, List.map_take]
 exact sum_le _ _
theorem deep_le_size : ∀ t : Tm, t.deep ≤ t.size
 | .mk k n s l => by
  rw [Tm.deep, Tm.size]
  have : ∀ l : List Tm, (∀ t ∈ l, t.deep ≤ t.size) → Tm.deeps l ≤ Tm.sizes l := by
   intro l
   induction l with
   | nil => intro _; simp [Tm.deeps, Tm.sizes]
   | cons x r ih =>
    intro h
    have h1 := h x (List.mem_cons_self ..)
    have h2 := ih fun t ht => h t (List.mem_cons_of_mem _ ht)
    rw [Tm.deeps, Tm.sizes]
    omega
  have := this l (fun t _ => deep_le_size t)
  omega
theorem read_small {o : OpsF} {ts : List Tok} {i : Nat} {sf : RdS} (h : endF o ts (startF i) = .fin sf) : sf.t.size ≤ vol ts ts.length ∧ sf.t.deep ≤ vol ts ts.length := by
 obtain ⟨h1, h2⟩ := end_pays o ts _ (startF i) sf (Nat.le_refl _) h
 have h3 := vol_all ts sf.at'
 have h4 : (startF i).pot = 0 := rfl
 have h5 : sf.pot = sf.t.size + potW sf.wait := by unfold RdS.pot; rw [if_pos h2]
 have h6 := deep_le_size sf.t
 omega
end Go.Proofs.YtiffopheamnngaaGreatDoor
namespace Go.Proofs.YtiffopheamnngaaGreatDoor
open Go.RowKit
theorem number_out (u : World) (rb : Nat) (v : RdV) (ts : List Tok) (s : RdS) (B : Nat) (h : RdAt u rb v ts s B) (l : List FrV) (hrow : WRow u rb v.wv l) (t : Tok) (hat : s.at' < ts.length) :
    Calls Tryz.prog 27 #[.pointer (some ⟨rb, 0, none⟩), tokW t] u fun e u' => Fr (fun k => k = rb ∨ v.wv.ownBlock = some k) u u' ∧ PrimOut u' rb v ts s B l (if t.n < 0 then .error s.at' else .ok ((s.go 1).done (intT t.n) 0)) e := by
 refine (number_any u rb v ts s B h t hat).mono ?_
 rintro e u' ⟨hF, h1⟩
 refine ⟨hF.weak fun k hk => .inl hk, ?_⟩
 by_cases hn : t.n < 0
 ·rw [if_pos hn] at h1 ⊢
  exact ⟨h1.1, s, rfl, h1.2⟩
 ·rw [if_neg hn] at h1 ⊢
  exact ⟨h1.1, _, h1.2, rfl, rfl, rfl, rfl, rfl, rfl, rfl, .inr ⟨rfl, rfl, WRow.fr hrow hF, 2, t.n, [], rfl, rfl⟩⟩
end Go.Proofs.YtiffopheamnngaaGreatDoor
