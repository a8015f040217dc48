import Derived.Test.YtiffopheamnngaaGreatDoorJT25
namespace Go.Proofs.YtiffopheamnngaaGreatDoor
mutual
def varsT : Tm → List Int | .mk k n _ l => (if k = 1 then [n] else []) ++ varsL l
def varsL : List Tm → List Int | [] => [] | t :: r => varsT t ++ varsL r
end
theorem vars_atom (s : List UInt8) : varsT (atomT s) = [] := by simp [atomT, varsT, varsL]
theorem vars_int (n : Int) : varsT (intT n) = [] := by simp [intT, varsT, varsL]
def occW : List WaitF → List Int
 | [] => []
 | f :: r => occW r ++ varsL f.l
def RdS.occ (s : RdS) : List Int := occW s.wait ++ (if s.hv = true then varsT s.t else [])
structure Keeps (s s' : RdS) (extra : List Int) : Prop where
 occ : s'.occ = occW s.wait ++ extra
 cnt : s'.cnt = s.cnt
 vars : s'.vars = s.vars
 names : s'.names = s.names
section
variable {o : OpsF} {ts : List Tok} {s s' : RdS}
theorem keeps_done (s : RdS) (t : Tm) (p : Int) (n : Nat) : Keeps s ((s.go n).done t p) (varsT t) := ⟨rfl, rfl, rfl, rfl⟩
theorem keeps_await (s : RdS) (f : WaitF) (m : Int) (n : Nat) : Keeps s ((s.go n).await f m) (varsL f.l) := ⟨by unfold RdS.occ; simp [RdS.await, RdS.again, RdS.go, occW], rfl, rfl, rfl⟩
theorem args_keeps {n : List UInt8} (h : argsF ts s n = .ok s') : Keeps s s' [] := by
 obtain ⟨rfl, _⟩ := args_ok h
 exact keeps_await s ⟨2, 0, n, 0, []⟩ 999 1
theorem Keeps.go {k : Nat} {e : List Int} (h : Keeps (s.go k) s' e) : Keeps s s' e := ⟨h.occ, h.cnt, h.vars, h.names⟩
theorem pair_keeps {c : UInt8} (h : pairF ts s c = .ok s') : Keeps s s' [] := by
 unfold pairF at h
 dsimp only at h
 split at h
 ·exact (args_keeps h).go
 ·injection h with h
  subst h
  have := keeps_done s (atomT ((peekF ts s.at').s ++ [c])) 0 2
  rw [vars_atom] at this
  exact this
theorem punct_keeps {x : List UInt8} (h : punctF ts s x = .ok s') : Keeps s s' [] := by
 unfold punctF at h
 split at h
 ·injection h with h
  subst h
  exact keeps_await s ⟨0, 0, [], 0, []⟩ 1200 1
 ·split at h
  ·split at h
   ·exact pair_keeps h
   ·injection h with h
    subst h
    exact keeps_await s ⟨3, 0, [], 0, []⟩ 999 1
  ·split at h
   ·split at h
    ·exact pair_keeps h
    ·injection h with h
     subst h
     exact keeps_await s ⟨1, 0, [], 0, []⟩ 1200 1
   ·cases h
theorem atom_keeps {t : Tok} (h : atomF o ts s t = .ok s') : Keeps s s' [] := by
 unfold atomF at h
 dsimp only at h
 split at h
 ·injection h with h
  subst h
  have := keeps_done s (intT (negI (peekF ts (s.at' + 1)).n)) 0 2
  rw [vars_int] at this
  exact this
 ·split at h
  ·exact (args_keeps h).go
  ·split at h
   ·injection h with h
    subst h
    exact keeps_await s ⟨5, 0, t.s, (o.pre t.s).1, []⟩ _ 1
   ·injection h with h
    subst h
    have := keeps_done s (atomT t.s) 0 1
    rw [vars_atom] at this
    exact this
end
end Go.Proofs.YtiffopheamnngaaGreatDoor
namespace Go.Proofs.YtiffopheamnngaaGreatDoor
section
variable {o : OpsF} {ts1 ts2 : List Tok} {p m : Nat} {W : List WaitF}
theorem toO_on {x : Except Nat RdS} {s : RdS} (h : toO x = .on s) : x = .ok s := by
 cases x with
 | error a => cases h
 | ok y => injection h with h; rw [h]
theorem round_fin {ts : List Tok} {s s1 : RdS} (h : roundF o ts s = .fin s1) : s1 = s ∧ s.hv = true ∧ operatorF o ts s = none ∧ s.wait = [] ∧ (peekF ts s.at').kind = 7 := by
 unfold roundF at h
 split at h
 ·cases hp : primaryF o ts s <;> rw [hp] at h <;> cases h
 ·rename_i hv
  split at h
  ·cases h
  ·rename_i ho
   split at h
   ·rename_i f r hw
    cases hb : backF ts s f r <;> rw [hb] at h <;> cases h
   ·rename_i hw
    split at h
    ·cases h
    ·rename_i hk
     injection h with h
     exact ⟨h.symm, by simpa using hv, ho, hw, by simpa using hk⟩
end
end Go.Proofs.YtiffopheamnngaaGreatDoor
namespace Go.Proofs.YtiffopheamnngaaGreatDoor
theorem read_ok {o : OpsF} {ts : List Tok} {i : Nat} {c : ClauseF} (h : readF o ts (i : Int) = (c, 0)) :
    i < ts.length ∧ (peekF ts i).kind ≠ 0 ∧ ∃ sf, endF o ts (startF i) = .fin sf ∧ sf.t.may = true ∧ sf.t.deep ≤ 2000 ∧ sf.t.size ≤ 20000 ∧ c = ⟨sf.t, sf.names, (peekF ts i).line, (sf.at' : Int) + 1⟩ := by
 unfold readF at h
 rw [Int.toNat_natCast] at h
 split at h
 ·cases h
 ·rename_i hc
  refine ⟨by omega, fun e => hc (.inr (.inr e)), ?_⟩
  change (match endF o ts (startF i) with
   | .on _ => _
   | .bad a => _
   | .fin s => _) = _ at h
  split at h
  ·cases h
  ·cases h
  ·rename_i s hs
   split at h
   ·cases h
   ·split at h
    ·cases h
    ·split at h
     ·cases h
     ·rename_i h1 h2 h3
      injection h with h _
      exact ⟨s, hs, by simpa using h1, by omega, by omega, h.symm⟩
section
variable {o : OpsF} {ts : List Tok}
end
section
variable {o : OpsF} {ts1 ts2 : List Tok} {m : Nat} {c : ClauseF}
end
end Go.Proofs.YtiffopheamnngaaGreatDoor
