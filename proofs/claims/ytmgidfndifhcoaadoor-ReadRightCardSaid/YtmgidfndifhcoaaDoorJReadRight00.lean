import Derived.Test.YtmgidfndifhcoaaDoorJReadBrackets18
import Derived.Test.YtmgidfndifhcoaaDoorJReadBrackets32
import Derived.Test.YtmgidfndifhcoaaDoorJReadBrackets23
/-
  Variables are numbered as they come, and named once each, in what is read. Plain laws; no condition.
-/
namespace Go.Proofs.YtmgidfndifhcoaaDoor

mutual
/-- A term's variables, as they stand. -/
def varsT : Tm → List Int | .mk k n _ l => (if k = 1 then [n] else []) ++ varsL l
def varsL : List Tm → List Int | [] => [] | t :: r => varsT t ++ varsL r
end
theorem varsL_app : ∀ l r : List Tm, varsL (l ++ r) = varsL l ++ varsL r
  | [], r => by simp [varsL]
  | t :: l, r => by rw [List.cons_append, varsL, varsL, varsL_app l r, List.append_assoc]
theorem varsL_one (t : Tm) : varsL [t] = varsT t := by simp [varsL]
theorem vars_comp (s : List UInt8) (l : List Tm) : varsT (compT s l) = varsL l := by simp [compT, varsT]
theorem vars_atom (s : List UInt8) : varsT (atomT s) = [] := by simp [atomT, varsT, varsL]
theorem vars_int (n : Int) : varsT (intT n) = [] := by simp [intT, varsT, varsL]
theorem vars_var (n : Int) : varsT (varT n) = [n] := by simp [varT, varsT, varsL]
theorem vars_list : ∀ (l : List Tm) (t : Tm), varsT (listT l t) = varsL l ++ varsT t
  | [], t => by simp [listT, varsL]
  | x :: l, t => by
    rw [show listT (x :: l) t = compT [46] [x, listT l t] from rfl, vars_comp, varsL, varsL_one, vars_list l t, varsL, List.append_assoc]
theorem vars_ints : ∀ s : List UInt8, varsL (s.map fun c => intT c.toNat) = []
  | [] => rfl
  | c :: s => by rw [List.map_cons, varsL, vars_ints s, vars_int]; rfl
/-- What stands in what waits, from the bottom. -/
def occW : List WaitF → List Int
  | [] => []
  | f :: r => occW r ++ varsL f.l
def RdS.occ (s : RdS) : List Int := occW s.wait ++ (if s.hv = true then varsT s.t else [])
/-- Each number once, as they come. -/
def firsts : List Int → List Int → List Int
  | seen, [] => seen
  | seen, n :: r => if n ∈ seen then firsts seen r else firsts (seen ++ [n]) r
theorem firsts_app : ∀ (l r seen : List Int), firsts seen (l ++ r) = firsts (firsts seen l) r
  | [], _, _ => rfl
  | n :: l, r, seen => by
    rw [List.cons_append, firsts, firsts]
    split
    · exact firsts_app l r seen
    · exact firsts_app l r _
def upTo (k : Nat) : List Int := (List.range k).map fun (i : Nat) => (i : Int)
theorem upTo_succ (k : Nat) : upTo (k + 1) = upTo k ++ [(k : Int)] := by unfold upTo; rw [List.range_succ, List.map_append]; rfl
theorem mem_upTo (k : Nat) (n : Int) : n ∈ upTo k ↔ 0 ≤ n ∧ n < (k : Int) := by
  unfold upTo
  rw [List.mem_map]
  constructor
  · rintro ⟨i, hi, rfl⟩
    have := List.mem_range.1 hi
    omega
  · rintro ⟨h1, h2⟩
    exact ⟨n.toNat, List.mem_range.2 (by omega), by omega⟩
/-- What holds of the numbers as they are given. -/
structure NumOk (s : RdS) : Prop where
  cnt : ∃ k : Nat, s.cnt = (k : Int) ∧ firsts [] s.occ = upTo k
  same : s.names = s.vars
  low : ∀ y ∈ s.vars, 0 ≤ y.2 ∧ y.2 < s.cnt
  up : s.vars.Pairwise (fun a b => a.2 < b.2)
  once : s.vars.Pairwise (fun a b => a.1 ≠ b.1)
  blank : ∀ y ∈ s.vars, y.1 ≠ [95]
theorem NumOk.keep {s s' : RdS} (h : NumOk s) (h1 : s'.occ = s.occ) (h2 : s'.cnt = s.cnt) (h3 : s'.vars = s.vars) (h4 : s'.names = s.names) : NumOk s' := by
  obtain ⟨a, b, c, d, e, f⟩ := h
  exact ⟨by rw [h1, h2]; exact a, by rw [h3, h4]; exact b, by rw [h2, h3]; exact c, by rw [h3]; exact d, by rw [h3]; exact e, by rw [h3]; exact f⟩
/-- Only a variable's token turns what is numbered. -/
structure Keeps (s s' : RdS) (extra : List Int) : Prop where
  occ : s'.occ = occW s.wait ++ extra
  cnt : s'.cnt = s.cnt
  vars : s'.vars = s.vars
  names : s'.names = s.names
section
variable {o : OpsF} {ts : List Tok} {s s' : RdS}
theorem keeps_done (s : RdS) (t : Tm) (p : Int) (n : Nat) : Keeps s ((s.go n).done t p) (varsT t) := ⟨rfl, rfl, rfl, rfl⟩
theorem keeps_await (s : RdS) (f : WaitF) (m : Int) (n : Nat) : Keeps s ((s.go n).await f m) (varsL f.l) := ⟨by unfold RdS.occ; simp [RdS.await, RdS.again, RdS.go, occW], rfl, rfl, rfl⟩
theorem args_keeps {n : List UInt8} (h : argsF ts s n = .ok s') : Keeps s s' [] := by
  obtain ⟨rfl, _⟩ := args_ok h
  exact keeps_await s ⟨2, 0, n, 0, []⟩ 999 1
theorem Keeps.go {k : Nat} {e : List Int} (h : Keeps (s.go k) s' e) : Keeps s s' e := ⟨h.occ, h.cnt, h.vars, h.names⟩
theorem pair_keeps {c : UInt8} (h : pairF ts s c = .ok s') : Keeps s s' [] := by
  unfold pairF at h
  dsimp only at h
  split at h
  · exact (args_keeps h).go
  · injection h with h
    subst h
    have := keeps_done s (atomT ((peekF ts s.at').s ++ [c])) 0 2
    rw [vars_atom] at this
    exact this
theorem punct_keeps {x : List UInt8} (h : punctF ts s x = .ok s') : Keeps s s' [] := by
  unfold punctF at h
  split at h
  · injection h with h
    subst h
    exact keeps_await s ⟨0, 0, [], 0, []⟩ 1200 1
  · split at h
    · split at h
      · exact pair_keeps h
      · injection h with h
        subst h
        exact keeps_await s ⟨3, 0, [], 0, []⟩ 999 1
    · split at h
      · split at h
        · exact pair_keeps h
        · injection h with h
          subst h
          exact keeps_await s ⟨1, 0, [], 0, []⟩ 1200 1
      · cases h
theorem atom_keeps {t : Tok} (h : atomF o ts s t = .ok s') : Keeps s s' [] := by
  unfold atomF at h
  dsimp only at h
  split at h
  · injection h with h
    subst h
    have := keeps_done s (intT (negI (peekF ts (s.at' + 1)).n)) 0 2
    rw [vars_int] at this
    exact this
  · split at h
    · exact (args_keeps h).go
    · split at h
      · injection h with h
        subst h
        exact keeps_await s ⟨5, 0, t.s, (o.pre t.s).1, []⟩ _ 1
      · injection h with h
        subst h
        have := keeps_done s (atomT t.s) 0 1
        rw [vars_atom] at this
        exact this
theorem occ_new (h : s.hv = false) : s.occ = occW s.wait := by unfold RdS.occ; rw [if_neg (by rw [h]; decide), List.append_nil]
theorem occ_old (h : s.hv = true) : s.occ = occW s.wait ++ varsT s.t := by unfold RdS.occ; rw [if_pos h]
theorem Keeps.num {e : List Int} (h : Keeps s s' e) (hn : NumOk s) (he : s.occ = occW s.wait ++ e) : NumOk s' := hn.keep (h.occ.trans he.symm) h.cnt h.vars h.names
theorem firsts_mem : ∀ (l seen : List Int) (n : Int), n ∈ seen → n ∈ firsts seen l
  | [], _, _, h => h
  | m :: l, seen, n, h => by
    rw [firsts]
    split
    · exact firsts_mem l seen n h
    · exact firsts_mem l _ n (List.mem_append_left _ h)
theorem var_num (hv : s.hv = false) (hn : NumOk s) (x : List UInt8) : NumOk (varF (s.go 1) x) := by
  obtain ⟨⟨k, hk, hf⟩, hs, hl, hu, ho, hb⟩ := hn
  rw [occ_new hv] at hf
  unfold varF
  rw [show (s.go 1).vars = s.vars from rfl]
  cases hfd : s.vars.find? (fun y => decide (y.1 = x)) with
  | some y =>
    simp only
    have hy := List.mem_of_find?_eq_some hfd
    have hlow := hl y hy
    refine ⟨⟨k, hk, ?_⟩, hs, hl, hu, ho, hb⟩
    show firsts [] (occW s.wait ++ varsT (varT y.2)) = _
    rw [firsts_app, hf, vars_var, firsts, if_pos ((mem_upTo k y.2).2 (by omega)), firsts]
  | none =>
    have hnx : ∀ y ∈ s.vars, y.1 ≠ x := fun y hy e => by
      have := List.find?_eq_none.1 hfd y hy
      simp [e] at this
    have hocc : firsts [] (occW s.wait ++ varsT (varT s.cnt)) = upTo (k + 1) := by
      rw [firsts_app, hf, vars_var, firsts, if_neg (fun h => by have := (mem_upTo k s.cnt).1 h; omega), firsts, upTo_succ, hk]
    simp only
    by_cases hx : x = [95]
    · rw [if_pos hx]
      exact ⟨⟨k + 1, by show s.cnt + 1 = _; rw [hk]; rfl, hocc⟩, hs, fun y hy => by have := hl y hy; show _ ∧ _ < s.cnt + 1; omega, hu, ho, hb⟩
    · rw [if_neg hx]
      refine ⟨⟨k + 1, by show s.cnt + 1 = _; rw [hk]; rfl, hocc⟩, ?_, fun y hy => ?_, ?_, ?_, fun y hy => ?_⟩
      · show s.names ++ _ = s.vars ++ _
        rw [hs]
      · rcases List.mem_append.1 (show y ∈ s.vars ++ [(x, s.cnt)] from hy) with h1 | h1
        · have := hl y h1
          show _ ∧ _ < s.cnt + 1
          omega
        · have : y = (x, s.cnt) := by simpa using h1
          subst this
          show 0 ≤ s.cnt ∧ s.cnt < s.cnt + 1
          omega
      · show (s.vars ++ [(x, s.cnt)]).Pairwise _
        rw [List.pairwise_append]
        exact ⟨hu, by simp, fun a ha b hb' => by have : b = (x, s.cnt) := by simpa using hb'
                                                 subst this
                                                 exact (hl a ha).2⟩
      · show (s.vars ++ [(x, s.cnt)]).Pairwise _
        rw [List.pairwise_append]
        exact ⟨ho, by simp, fun a ha b hb' => by have : b = (x, s.cnt) := by simpa using hb'
                                                 subst this
                                                 exact hnx a ha⟩
      · rcases List.mem_append.1 (show y ∈ s.vars ++ [(x, s.cnt)] from hy) with h1 | h1
        · exact hb y h1
        · have : y = (x, s.cnt) := by simpa using h1
          subst this
          exact hx
theorem primary_num (hv : s.hv = false) (hn : NumOk s) (h : primaryF o ts s = .ok s') : NumOk s' := by
  have hocc : ∀ {e : List Int}, e = [] → s.occ = occW s.wait ++ e := fun he => by rw [occ_new hv, he, List.append_nil]
  unfold primaryF at h
  dsimp only at h
  split at h
  · split at h
    · cases h
    · injection h with h
      subst h
      exact (keeps_done s _ 0 1).num hn (hocc (vars_int _))
  · split at h
    · injection h with h
      subst h
      exact var_num hv hn _
    · split at h
      · injection h with h
        subst h
        exact (keeps_done s _ 0 1).num hn (hocc (by rw [vars_list, vars_ints, show nilT = atomT [91, 93] from rfl, vars_atom]; rfl))
      · split at h
        · exact (punct_keeps h).num hn (hocc rfl)
        · split at h
          · exact (atom_keeps h).num hn (hocc rfl)
          · cases h
theorem operator_num (hv : s.hv = true) (hn : NumOk s) (h : operatorF o ts s = some s') : NumOk s' := by
  unfold operatorF at h
  dsimp only at h
  split at h
  · cases h
  · split at h
    · injection h with h
      subst h
      exact (keeps_await s ⟨6, 0, (peekF ts s.at').s, (o.inf (peekF ts s.at').s).1, [s.t]⟩ _ 1).num hn (by rw [occ_old hv, varsL_one])
    · split at h
      · injection h with h
        subst h
        exact (keeps_done s (compT (peekF ts s.at').s [s.t]) (o.post (peekF ts s.at').s).1 1).num hn (by rw [occ_old hv, vars_comp, varsL_one])
      · cases h
/-- Behind a whole term that goes to what waits. -/
structure Pops (s s' : RdS) (f : WaitF) : Prop where
  occ : s'.occ = occW s.wait ++ (varsL f.l ++ varsT s.t)
  cnt : s'.cnt = s.cnt
  vars : s'.vars = s.vars
  names : s'.names = s.names
theorem backG_pops {f : WaitF} (h : backG ts s f = .ok s') (hu : f.use = 5 ∨ f.use = 6 ∨ f.use = 0 ∨ f.use = 1 ∨ f.use = 2 ∨ f.use = 3 ∨ f.use = 4) (hl : f.use = 0 ∨ f.use = 1 ∨ f.use = 5 → f.l = []) : Pops s s' f := by
  have ex : ∀ (c : UInt8) (t : Tm) (p : Int), ((s.expect ts c).map fun s => s.done t p) = .ok s' → varsT t = varsL f.l ++ varsT s.t → Pops s s' f := fun c t p h1 h2 => by
    obtain ⟨rfl, _⟩ := expect_map h1
    exact ⟨by rw [← h2]; rfl, rfl, rfl, rfl⟩
  have ag : ∀ (g : WaitF), g.l = f.l ++ [s.t] → s' = (s.go 1).again g 999 → Pops s s' f := fun g h2 h3 => by
    subst h3
    refine ⟨?_, rfl, rfl, rfl⟩
    show (occW s.wait ++ varsL g.l) ++ [] = _
    rw [h2, varsL_app, varsL_one, List.append_nil]
  have e0 : f.l = [] → varsL f.l ++ varsT s.t = varsT s.t := fun h => by rw [h]; rfl
  unfold backG at h
  split at h
  · rename_i hu0
    cases hx : s.expect ts 41 with
    | error a => rw [hx] at h; cases h
    | ok x =>
      rw [hx] at h
      obtain ⟨rfl, _⟩ := expect_ok hx
      injection h with h
      subst h
      exact ⟨by rw [e0 (hl (.inl hu0))]; rfl, rfl, rfl, rfl⟩
  · split at h
    · rename_i hu0
      cases hx : s.expect ts 125 with
      | error a => rw [hx] at h; cases h
      | ok x =>
        rw [hx] at h
        obtain ⟨rfl, _⟩ := expect_ok hx
        injection h with h
        subst h
        refine ⟨?_, rfl, rfl, rfl⟩
        rw [e0 (hl (.inr (.inl hu0)))]
        show occW s.wait ++ varsT (compT [123, 125] [s.t]) = _
        rw [vars_comp, varsL_one]
    · split at h
      · rename_i hu0
        injection h with h
        subst h
        refine ⟨?_, rfl, rfl, rfl⟩
        rw [e0 (hl (.inr (.inr hu0)))]
        show occW s.wait ++ varsT (compT f.name [s.t]) = _
        rw [vars_comp, varsL_one]
      · split at h
        · injection h with h
          subst h
          refine ⟨?_, rfl, rfl, rfl⟩
          show occW s.wait ++ varsT (compT f.name (f.l ++ [s.t])) = _
          rw [vars_comp, varsL_app, varsL_one]
        · split at h
          · dsimp only at h
            split at h
            · injection h with h
              exact ag _ rfl h.symm
            · cases hx : s.expect ts 41 with
              | error a => rw [hx] at h; cases h
              | ok x =>
                rw [hx] at h
                obtain ⟨rfl, _⟩ := expect_ok hx
                injection h with h
                subst h
                refine ⟨?_, rfl, rfl, rfl⟩
                show occW s.wait ++ varsT (compT f.name (f.l ++ [s.t])) = _
                rw [vars_comp, varsL_app, varsL_one]
          · split at h
            · dsimp only at h
              split at h
              · injection h with h
                exact ag _ rfl h.symm
              · split at h
                · injection h with h
                  exact ag _ rfl h.symm
                · exact ex 93 _ 0 h (by rw [vars_list, varsL_app, varsL_one, show nilT = atomT [91, 93] from rfl, vars_atom, List.append_nil])
            · split at h
              · cases hx : s.expect ts 93 with
                | error a => rw [hx] at h; cases h
                | ok x =>
                  rw [hx] at h
                  obtain ⟨rfl, _⟩ := expect_ok hx
                  injection h with h
                  subst h
                  refine ⟨?_, rfl, rfl, rfl⟩
                  show occW s.wait ++ varsT (listT f.l s.t) = _
                  rw [vars_list]
              · omega
end
end Go.Proofs.YtmgidfndifhcoaaDoor
/-
  What stands behind a clause's Stop, and operators that are none of its tokens, turn nothing of what is read. Plain laws; no condition.
-/
namespace Go.Proofs.YtmgidfndifhcoaaDoor

/-- The same tokens up to a Stop at m; the same operators as far as these tokens go. -/
structure Upto (o1 o2 : OpsF) (ts1 ts2 : List Tok) (m : Nat) : Prop where
  same : ∀ i, i ≤ m → peekF ts2 i = peekF ts1 i
  pre : ∀ i, i ≤ m → o2.pre (peekF ts1 i).s = o1.pre (peekF ts1 i).s
  inf : ∀ i, i ≤ m → o2.inf (peekF ts1 i).s = o1.inf (peekF ts1 i).s
  post : ∀ i, i ≤ m → o2.post (peekF ts1 i).s = o1.post (peekF ts1 i).s
  stop : (peekF ts1 m).kind = 7
def LeO (m : Nat) (x : Except Nat RdS) : Prop := ∀ s1, x = .ok s1 → s1.at' ≤ m

section
variable {o1 o2 : OpsF} {ts1 ts2 : List Tok} {m : Nat}
theorem Upto.mark (h : Upto o1 o2 ts1 ts2 m) {i : Nat} (hi : i ≤ m) (c : UInt8) : isP ts2 i c = isP ts1 i c := by
  unfold isP
  rw [h.same i hi]
theorem Upto.lt (h : Upto o1 o2 ts1 ts2 m) {i : Nat} (hi : i ≤ m) (hk : (peekF ts1 i).kind ≠ 7) : i < m := by
  rcases Nat.lt_or_ge i m with h1 | h1
  · exact h1
  · exfalso
    apply hk
    rw [show i = m by omega]
    exact h.stop
theorem Upto.mark_lt (h : Upto o1 o2 ts1 ts2 m) {i : Nat} (hi : i ≤ m) {c : UInt8} (hp : isP ts1 i c = true) : i < m := by
  apply h.lt hi
  unfold isP at hp
  simp at hp
  omega
theorem Upto.expect (h : Upto o1 o2 ts1 ts2 m) {s : RdS} (hi : s.at' ≤ m) (c : UInt8) : s.expect ts2 c = s.expect ts1 c ∧ LeO m (s.expect ts1 c) := by
  unfold RdS.expect
  rw [h.mark hi]
  refine ⟨rfl, fun s1 h1 => ?_⟩
  split at h1
  · rename_i hp
    injection h1 with h1
    subst h1
    exact h.mark_lt hi hp
  · cases h1
theorem Upto.expect_map (h : Upto o1 o2 ts1 ts2 m) {s : RdS} (hi : s.at' ≤ m) (c : UInt8) (f : RdS → RdS) (hf : ∀ x : RdS, (f x).at' = x.at') : (s.expect ts2 c).map f = (s.expect ts1 c).map f ∧ LeO m ((s.expect ts1 c).map f) := by
  obtain ⟨e1, e2⟩ := h.expect hi c
  rw [e1]
  refine ⟨rfl, fun s1 h1 => ?_⟩
  cases hx : s.expect ts1 c with
  | error a => rw [hx] at h1; cases h1
  | ok x =>
    rw [hx] at h1
    have h1' : f x = s1 := by injection h1
    subst h1'
    rw [hf]
    exact e2 x hx
theorem Upto.args (h : Upto o1 o2 ts1 ts2 m) {s : RdS} (hi : s.at' ≤ m) (n : List UInt8) : argsF ts2 s n = argsF ts1 s n ∧ LeO m (argsF ts1 s n) := by
  obtain ⟨e1, e2⟩ := h.expect hi 40
  unfold argsF
  rw [e1]
  refine ⟨rfl, fun s1 h1 => ?_⟩
  cases hx : s.expect ts1 40 with
  | error a => rw [hx] at h1; cases h1
  | ok x =>
    rw [hx] at h1
    injection h1 with h1
    subst h1
    exact e2 x hx
theorem Upto.pair (h : Upto o1 o2 ts1 ts2 m) {s : RdS} (hi : s.at' + 1 < m) (c : UInt8) : pairF ts2 s c = pairF ts1 s c ∧ LeO m (pairF ts1 s c) := by
  unfold pairF
  rw [h.same s.at' (by omega), h.same (s.at' + 1) (by omega)]
  obtain ⟨e1, e2⟩ := h.args (s := s.go 2) (show s.at' + 2 ≤ m by omega) ((peekF ts1 s.at').s ++ [c])
  dsimp only
  split
  · exact ⟨e1, e2⟩
  · refine ⟨rfl, fun s1 h1 => ?_⟩
    injection h1 with h1
    subst h1
    exact hi
theorem Upto.punct (h : Upto o1 o2 ts1 ts2 m) {s : RdS} (hi : s.at' < m) (x : List UInt8) : punctF ts2 s x = punctF ts1 s x ∧ LeO m (punctF ts1 s x) := by
  have go1 : ∀ f k, LeO m (Except.ok ((s.go 1).await f k)) := fun f k s1 h1 => by
    injection h1 with h1
    subst h1
    exact hi
  unfold punctF
  rw [h.mark (i := s.at' + 1) hi, h.mark (i := s.at' + 1) hi]
  split
  · exact ⟨rfl, go1 _ _⟩
  · split
    · split
      · rename_i hp
        exact h.pair (h.mark_lt hi hp) 93
      · exact ⟨rfl, go1 _ _⟩
    · split
      · split
        · rename_i hp
          exact h.pair (h.mark_lt hi hp) 125
        · exact ⟨rfl, go1 _ _⟩
      · exact ⟨rfl, fun s1 h1 => by cases h1⟩
theorem Upto.begins (h : Upto o1 o2 ts1 ts2 m) {i : Nat} (hi : i ≤ m) : beginsF o2 (peekF ts1 i) = beginsF o1 (peekF ts1 i) := by
  unfold beginsF
  rw [h.pre i hi, h.inf i hi, h.post i hi]
theorem Upto.atom (h : Upto o1 o2 ts1 ts2 m) {s : RdS} (hi : s.at' < m) : atomF o2 ts2 s (peekF ts1 s.at') = atomF o1 ts1 s (peekF ts1 s.at') ∧ LeO m (atomF o1 ts1 s (peekF ts1 s.at')) := by
  unfold atomF
  rw [h.same (s.at' + 1) hi, h.pre s.at' (by omega)]
  dsimp only
  rw [h.begins (i := s.at' + 1) hi]
  obtain ⟨e1, e2⟩ := h.args (s := s.go 1) (show s.at' + 1 ≤ m by omega) (peekF ts1 s.at').s
  rw [e1]
  refine ⟨rfl, ?_⟩
  split
  · rename_i hp
    intro s1 h1
    injection h1 with h1
    subst h1
    exact h.lt (i := s.at' + 1) hi (by omega)
  · split
    · exact e2
    · split
      · intro s1 h1
        injection h1 with h1
        subst h1
        exact hi
      · intro s1 h1
        injection h1 with h1
        subst h1
        exact hi
theorem Upto.primary (h : Upto o1 o2 ts1 ts2 m) {s : RdS} (hi : s.at' ≤ m) : primaryF o2 ts2 s = primaryF o1 ts1 s ∧ LeO m (primaryF o1 ts1 s) := by
  unfold primaryF
  rw [h.same s.at' hi]
  dsimp only
  split
  · rename_i hk
    have hl := h.lt hi (by omega)
    refine ⟨rfl, ?_⟩
    split
    · intro s1 h1
      cases h1
    · intro s1 h1
      injection h1 with h1
      subst h1
      exact hl
  · split
    · rename_i hk
      have hl := h.lt hi (by omega)
      refine ⟨rfl, fun s1 h1 => ?_⟩
      injection h1 with h1
      subst h1
      rw [(var_at (s.go 1) (peekF ts1 s.at').s).1]
      exact hl
    · split
      · rename_i hk
        have hl := h.lt hi (by omega)
        refine ⟨rfl, fun s1 h1 => ?_⟩
        injection h1 with h1
        subst h1
        exact hl
      · split
        · rename_i hk
          exact h.punct (h.lt hi (by omega)) _
        · split
          · rename_i hk
            exact h.atom (h.lt hi (by omega))
          · exact ⟨rfl, fun s1 h1 => by cases h1⟩
theorem Upto.operator (h : Upto o1 o2 ts1 ts2 m) {s : RdS} (hi : s.at' ≤ m) : operatorF o2 ts2 s = operatorF o1 ts1 s ∧ ∀ s1, operatorF o1 ts1 s = some s1 → s1.at' ≤ m := by
  have hlt : ¬((peekF ts1 s.at').kind ≠ 1 ∧ (peekF ts1 s.at').kind ≠ 2 ∧ isP ts1 s.at' 44 = false) → s.at' < m := by
    intro hn
    apply h.lt hi
    intro h7
    apply hn
    refine ⟨by omega, by omega, ?_⟩
    unfold isP
    rw [h7]
    rfl
  unfold operatorF
  rw [h.same s.at' hi, h.mark hi]
  dsimp only
  rw [h.inf s.at' hi, h.post s.at' hi]
  refine ⟨rfl, fun s1 h1 => ?_⟩
  split at h1
  · cases h1
  · rename_i hn
    have hl := hlt hn
    split at h1
    · injection h1 with h1
      subst h1
      exact hl
    · split at h1
      · injection h1 with h1
        subst h1
        exact hl
      · cases h1
theorem Upto.backs (h : Upto o1 o2 ts1 ts2 m) {s : RdS} (hi : s.at' ≤ m) (f : WaitF) : backG ts2 s f = backG ts1 s f ∧ LeO m (backG ts1 s f) := by
  unfold backG
  rw [h.mark hi 44, h.mark hi 124]
  dsimp only
  have ex : ∀ (c : UInt8) (g : RdS → RdS), (∀ x : RdS, (g x).at' = x.at') → (s.expect ts2 c).map g = (s.expect ts1 c).map g ∧ LeO m ((s.expect ts1 c).map g) := fun c g hg => h.expect_map hi c g hg
  have ok : ∀ x : RdS, x.at' = s.at' → LeO m (.ok x) := fun x hx s1 h1 => by
    injection h1 with h1
    subst h1
    omega
  have go1 : ∀ {c : UInt8}, isP ts1 s.at' c = true → ∀ f k, LeO m (.ok ((s.go 1).again f k)) := fun hp f k s1 h1 => by
    injection h1 with h1
    subst h1
    exact h.mark_lt hi hp
  split
  · exact ex 41 _ fun x => rfl
  · split
    · exact ex 125 _ fun x => rfl
    · split
      · exact ⟨rfl, ok _ rfl⟩
      · split
        · exact ⟨rfl, ok _ rfl⟩
        · split
          · split
            · rename_i hp
              exact ⟨rfl, go1 hp _ _⟩
            · exact ex 41 _ fun x => rfl
          · split
            · split
              · rename_i hp
                exact ⟨rfl, go1 hp _ _⟩
              · split
                · rename_i hp
                  exact ⟨rfl, go1 hp _ _⟩
                · exact ex 93 _ fun x => rfl
            · split
              · exact ex 93 _ fun x => rfl
              · exact ⟨rfl, ok _ rfl⟩
theorem Upto.round (h : Upto o1 o2 ts1 ts2 m) {s : RdS} (hi : s.at' ≤ m) : roundF o2 ts2 s = roundF o1 ts1 s ∧ ∀ s1, roundF o1 ts1 s = .on s1 → s1.at' ≤ m := by
  unfold roundF
  obtain ⟨p1, p2⟩ := h.primary hi
  obtain ⟨q1, q2⟩ := h.operator hi
  rw [p1, q1, h.same s.at' hi]
  split
  · exact ⟨rfl, fun s1 h1 => p2 s1 (toO_on h1)⟩
  · split
    · rename_i x hx
      refine ⟨rfl, fun s1 h1 => ?_⟩
      injection h1 with h1
      subst h1
      exact q2 _ hx
    · split
      · rename_i f r hw
        obtain ⟨b1, b2⟩ := h.backs (s := { s with wait := r, most := f.most }) hi f
        unfold backF
        rw [b1]
        exact ⟨rfl, fun s1 h1 => b2 s1 (toO_on h1)⟩
      · refine ⟨rfl, fun s1 h1 => ?_⟩
        split at h1
        · cases h1
        · cases h1
theorem Upto.run (h : Upto o1 o2 ts1 ts2 m) : ∀ (n : Nat) (s : RdS), leftF ts1 s ≤ n → s.at' ≤ m → endF o2 ts2 s = endF o1 ts1 s
  | n, s, hn, hi => by
    obtain ⟨r1, r2⟩ := h.round hi
    rw [end_step o2, end_step o1, r1]
    cases hr : roundF o1 ts1 s with
    | on s1 =>
      have hl := round_less hr
      match n, hn with
      | 0, hn => omega
      | n + 1, hn => exact Upto.run h n s1 (by omega) (r2 s1 hr)
    | fin s1 => rfl
    | bad a => rfl
theorem upto_read (h : Upto o1 o2 ts1 ts2 m) {c : ClauseF} (hr : readF o1 ts1 ((0 : Nat) : Int) = (c, 0)) : readF o2 ts2 ((0 : Nat) : Int) = (c, 0) := by
  obtain ⟨hl, hk, sf, he, h1, h2, h3, rfl⟩ := read_ok hr
  have he2 := h.run _ (startF 0) (Nat.le_refl _) (Nat.zero_le _)
  have hs := h.same 0 (Nat.zero_le _)
  have hk2 : (peekF ts2 0).kind ≠ 0 := by rw [hs]; exact hk
  rw [read_mk (peek_lt hk2) hk2 (he2.trans he) h1 h2 h3, hs]
end
/-- The reader comes to its end at a Stop. -/
theorem end_stop (o : OpsF) (ts : List Tok) : ∀ (n : Nat) (s sf : RdS), leftF ts s ≤ n → endF o ts s = .fin sf → (peekF ts sf.at').kind = 7
  | n, s, sf, hn, he => by
    rw [end_step] at he
    cases hr : roundF o ts s with
    | on s1 =>
      rw [hr] at he
      have hl := round_less hr
      match n, hn with
      | 0, hn => omega
      | n + 1, hn => exact end_stop o ts n s1 sf (by omega) he
    | fin s1 =>
      rw [hr] at he
      injection he with he
      subst he
      obtain ⟨rfl, _, _, _, h7⟩ := round_fin hr
      exact h7
    | bad a => rw [hr] at he; cases he
theorem peek_mem {ts : List Tok} {i : Nat} (h : i < ts.length) : peekF ts i ∈ ts := by
  unfold peekF
  rw [List.getD_eq_getElem?_getD, List.getElem?_eq_getElem h]
  exact List.getElem_mem h
/-- What stands behind a text's Stop turns nothing. -/
theorem behind_same {o : OpsF} {u b : List UInt8} {ts1 : List Tok} {ln : Int} {c : ClauseF} (hu : Ends u) (h : lexB u = (ts1, ln, 0)) (hr : readF o ts1 ((0 : Nat) : Int) = (c, 0)) (hn : c.next = (ts1.length : Int) - 1) :
    readF o (lexB (u ++ b)).1 ((0 : Nat) : Int) = (c, 0) ∧ c.next ≤ ((lexB (u ++ b)).1.length : Int) := by
  obtain ⟨ts0, e0, e1⟩ := lex_app b (u.length + 1) u 1 true ts1 ln hu (Nat.lt_succ_self _) h
  have e2 : lexB (u ++ b) = lexF (u.length + 1 + b.length) (u ++ b) 1 true := by
    unfold lexB
    rw [List.length_append]
    congr 1
    omega
  rw [e2, e1]
  have hlen : ts1.length = ts0.length + 1 := by rw [e0, List.length_append]; rfl
  refine ⟨?_, by rw [hn, List.length_append]; omega⟩
  obtain ⟨_, _, sf, he, _, _, _, rfl⟩ := read_ok hr
  have h7 := end_stop o ts1 _ _ _ (Nat.le_refl _) he
  have hm : sf.at' + 1 = ts0.length := by
    have : (sf.at' : Int) + 1 = (ts1.length : Int) - 1 := hn
    omega
  refine upto_read (m := sf.at') ⟨fun i hi => ?_, fun _ _ => rfl, fun _ _ => rfl, fun _ _ => rfl, h7⟩ hr
  rw [e0]
  unfold peekF
  rw [List.getD_eq_getElem?_getD, List.getD_eq_getElem?_getD, List.getElem?_append_left (by omega), List.getElem?_append_left (by omega)]
/-- Operators that no token names turn nothing. -/
theorem strange_same {o o2 : OpsF} {ts : List Tok} {c : ClauseF} (hr : readF o ts ((0 : Nat) : Int) = (c, 0)) (ha : ∀ t ∈ ts, o2.pre t.s = o.pre t.s ∧ o2.inf t.s = o.inf t.s ∧ o2.post t.s = o.post t.s) :
    readF o2 ts ((0 : Nat) : Int) = (c, 0) := by
  obtain ⟨_, _, sf, he, _, _, _, rfl⟩ := read_ok hr
  have h7 := end_stop o ts _ _ _ (Nat.le_refl _) he
  have hlt : sf.at' < ts.length := peek_lt (by rw [h7]; decide)
  exact upto_read (m := sf.at') ⟨fun _ _ => rfl, fun i hi => (ha _ (peek_mem (by omega))).1, fun i hi => (ha _ (peek_mem (by omega))).2.1, fun i hi => (ha _ (peek_mem (by omega))).2.2, h7⟩ hr
end Go.Proofs.YtmgidfndifhcoaaDoor
/-
  How many names a clause that is read may have. Plain laws; no condition.
-/
namespace Go.Proofs.YtmgidfndifhcoaaDoor

section
variable {o : OpsF} {ts : List Tok} {s s' : RdS}
theorem var_names (s : RdS) (x : List UInt8) : (varF s x).names.length ≤ s.names.length + 1 := by
  unfold varF
  split
  · exact Nat.le_succ _
  · dsimp only
    split
    · exact Nat.le_succ _
    · show (s.names ++ _).length ≤ _
      rw [List.length_append]
      exact Nat.le_refl _
theorem primary_names (h : primaryF o ts s = .ok s') : s'.names.length ≤ s.names.length + 1 := by
  unfold primaryF at h
  dsimp only at h
  split at h
  · split at h
    · cases h
    · injection h with h
      subst h
      exact Nat.le_succ _
  · split at h
    · injection h with h
      subst h
      exact var_names (s.go 1) _
    · split at h
      · injection h with h
        subst h
        exact Nat.le_succ _
      · split at h
        · rw [(punct_keeps h).names]
          exact Nat.le_succ _
        · split at h
          · rw [(atom_keeps h).names]
            exact Nat.le_succ _
          · cases h
theorem operator_names (h : operatorF o ts s = some s') : s'.names = s.names := by
  unfold operatorF at h
  dsimp only at h
  split at h
  · cases h
  · split at h
    · injection h with h
      subst h
      rfl
    · split at h
      · injection h with h
        subst h
        rfl
      · cases h
theorem expect_names {c : UInt8} {f : RdS → RdS} (h : (s.expect ts c).map f = .ok s') (hf : ∀ x : RdS, (f x).names = x.names) : s'.names = s.names := by
  obtain ⟨rfl, _⟩ := expect_map h
  exact hf _
theorem backG_names {f : WaitF} (h : backG ts s f = .ok s') : s'.names = s.names := by
  unfold backG at h
  dsimp only at h
  split at h
  · exact expect_names h fun _ => rfl
  · split at h
    · exact expect_names h fun _ => rfl
    · split at h
      · injection h with h
        subst h
        rfl
      · split at h
        · injection h with h
          subst h
          rfl
        · split at h
          · split at h
            · injection h with h
              subst h
              rfl
            · exact expect_names h fun _ => rfl
          · split at h
            · split at h
              · injection h with h
                subst h
                rfl
              · split at h
                · injection h with h
                  subst h
                  rfl
                · exact expect_names h fun _ => rfl
            · split at h
              · exact expect_names h fun _ => rfl
              · injection h with h
                subst h
                rfl
theorem round_names (h : roundF o ts s = .on s') : s'.names.length ≤ s.names.length + 1 := by
  unfold roundF at h
  split at h
  · exact primary_names (toO_on h)
  · split at h
    · rename_i x hx
      injection h with h
      subst h
      rw [operator_names hx]
      exact Nat.le_succ _
    · split at h
      · rename_i f r hw
        have := backG_names (toO_on h)
        rw [this]
        exact Nat.le_succ _
      · split at h
        · cases h
        · cases h
end
theorem end_names (o : OpsF) (ts : List Tok) : ∀ (n : Nat) (s sf : RdS), leftF ts s ≤ n → endF o ts s = .fin sf → sf.names.length ≤ s.names.length + n
  | n, s, sf, hn, he => by
    rw [end_step] at he
    cases hr : roundF o ts s with
    | on s1 =>
      rw [hr] at he
      have hl := round_less hr
      have h1 := round_names hr
      match n, hn with
      | 0, hn => omega
      | n + 1, hn =>
        have := end_names o ts n s1 sf (by omega) he
        omega
    | fin s1 =>
      rw [hr] at he
      injection he with he
      subst he
      obtain ⟨rfl, _, _, _, _⟩ := round_fin hr
      omega
    | bad a => rw [hr] at he; cases he
theorem read_names {o : OpsF} {ts : List Tok} {i : Nat} {c : ClauseF} (hr : readF o ts (i : Int) = (c, 0)) : c.names.length ≤ 3 * ts.length + 1 := by
  obtain ⟨_, _, sf, he, _, _, _, rfl⟩ := read_ok hr
  have := end_names o ts _ _ _ (Nat.le_refl _) he
  have h2 : leftF ts (startF i) ≤ 3 * ts.length + 1 := by
    show 3 * (ts.length - i) + 0 + 1 ≤ _
    omega
  have h3 : (startF i).names.length = 0 := rfl
  show sf.names.length ≤ _
  omega
end Go.Proofs.YtmgidfndifhcoaaDoor
