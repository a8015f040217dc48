import Derived.Test.YtcallkljcjimiaaGreatDoorJG02
import Derived.Test.YtcallkljcjimiaaGreatDoorJW29
import Derived.Test.YtcallkljcjimiaaGreatDoorJW25
import Derived.WalkKit
import Derived.WalkSmall
import Derived.Lib.Hide
import Derived.Laws.AppendOwn
import Derived.Laws.MakeOwn
import Derived.Deep.OwnRows
namespace Go.Proofs.YtcallkljcjimiaaGreatDoor
def Tok.alike (a b : Tok) : Prop := b.kind = a.kind ∧ b.n = a.n ∧ b.s = a.s ∧ b.opn = a.opn
structure InBr (ts1 ts2 : List Tok) (p m : Nat) : Prop where
 same : ∀ i, i < m → (peekF ts1 i).alike (peekF ts2 (p + i))
 tight : ∀ i, 0 < i → i < m → (peekF ts2 (p + i)).tight = (peekF ts1 i).tight
 stop : (peekF ts1 m).kind = 7
 close : (peekF ts2 (p + m)).kind = 6 ∧ ((peekF ts2 (p + m)).s = [41] ∨ (peekF ts2 (p + m)).s = [125])
def RdS.lift (s : RdS) (p : Nat) (W : List WaitF) : RdS := { s with at' := p + s.at', wait := s.wait ++ W }
section
variable {o : OpsF} {ts1 ts2 : List Tok} {p m : Nat} {W : List WaitF}
theorem InBr.mark (h : InBr ts1 ts2 p m) {i : Nat} (hi : i < m) (c : UInt8) : isP ts2 (p + i) c = isP ts1 i c := by
 obtain ⟨h1, _, h3, _⟩ := h.same i hi
 unfold isP
 rw [h1, h3]
theorem InBr.mark_stop (h : InBr ts1 ts2 p m) (c : UInt8) : isP ts1 m c = false := by
 unfold isP
 rw [h.stop]
 rfl
theorem InBr.mark_close (h : InBr ts1 ts2 p m) (c : UInt8) (h1 : c ≠ 41) (h2 : c ≠ 125) : isP ts2 (p + m) c = false := by
 unfold isP
 rcases h.close.2 with h3 | h3
 ·rw [h3]
  simp [Ne.symm h1]
 ·rw [h3]
  simp [Ne.symm h2]
theorem InBr.expect (h : InBr ts1 ts2 p m) {s s1 : RdS} {c : UInt8} (hl : s.at' ≤ m) (he : s.expect ts1 c = .ok s1) : (s.lift p W).expect ts2 c = .ok (s1.lift p W) ∧ s.at' < m ∧ s1 = s.go 1 := by
 unfold RdS.expect at he
 split at he
 ·rename_i hp
  injection he with he
  subst he
  have hlt : s.at' < m := by
   rcases Nat.lt_or_ge s.at' m with h1 | h1
   ·exact h1
   ·rw [show s.at' = m by omega, h.mark_stop] at hp
    cases hp
  refine ⟨?_, hlt, rfl⟩
  unfold RdS.expect
  rw [show (s.lift p W).at' = p + s.at' from rfl, h.mark hlt, hp]
  rfl
 ·cases he
theorem InBr.expect_map (h : InBr ts1 ts2 p m) {s s1 : RdS} {c : UInt8} {f : RdS → RdS} (hl : s.at' ≤ m) (hf : ∀ x : RdS, f (x.lift p W) = (f x).lift p W) (hf2 : ∀ x : RdS, (f x).at' = x.at') (he : (s.expect ts1 c).map f = .ok s1) :
    ((s.lift p W).expect ts2 c).map f = .ok (s1.lift p W) ∧ s1.at' ≤ m := by
 cases hx : s.expect ts1 c with
 | error a => rw [hx] at he; cases he
 | ok x =>
  rw [hx] at he
  obtain ⟨h1, h2, rfl⟩ := h.expect (W := W) hl hx
  have he' : f (s.go 1) = s1 := by injection he
  subst he'
  rw [h1]
  exact ⟨congrArg Except.ok (hf _), by rw [hf2]; exact h2⟩
theorem InBr.args (h : InBr ts1 ts2 p m) {s s1 : RdS} {n : List UInt8} (hl : s.at' ≤ m) (he : argsF ts1 s n = .ok s1) : argsF ts2 (s.lift p W) n = .ok (s1.lift p W) ∧ s1.at' ≤ m := by
 unfold argsF at he ⊢
 cases hx : s.expect ts1 40 with
 | error a => rw [hx] at he; cases he
 | ok x =>
  rw [hx] at he
  obtain ⟨h1, h2, rfl⟩ := h.expect (W := W) hl hx
  injection he with he
  subst he
  rw [h1]
  exact ⟨rfl, h2⟩
theorem var_lift (s : RdS) (x : List UInt8) : varF (s.lift p W) x = (varF s x).lift p W := by
 unfold varF
 rw [show (s.lift p W).vars = s.vars from rfl]
 cases s.vars.find? (fun y => decide (y.1 = x)) with
 | some y => rfl
 | none =>
  dsimp only
  by_cases hx : x = [95]
  ·rw [if_pos hx, if_pos hx]; rfl
  ·rw [if_neg hx, if_neg hx]; rfl
theorem InBr.pair (h : InBr ts1 ts2 p m) {s s1 : RdS} {c : UInt8} (hl : s.at' + 1 < m) (he : pairF ts1 s c = .ok s1) : pairF ts2 (s.lift p W) c = .ok (s1.lift p W) ∧ s1.at' ≤ m := by
 unfold pairF at he ⊢
 dsimp only at he ⊢
 obtain ⟨_, _, a3, _⟩ := h.same s.at' (by omega)
 obtain ⟨_, _, _, b4⟩ := h.same (s.at' + 1) hl
 rw [show (s.lift p W).at' = p + s.at' from rfl, Nat.add_assoc, a3, b4]
 split at he
 ·rename_i ho
  rw [if_pos ho]
  exact h.args (s := s.go 2) (show s.at' + 2 ≤ m by omega) he
 ·rename_i ho
  rw [if_neg ho]
  injection he with he
  subst he
  exact ⟨rfl, show s.at' + 2 ≤ m by omega⟩
def SimO (p m : Nat) (W : List WaitF) (s1 : RdS) (x : Except Nat RdS) : Prop := (x = .ok (s1.lift p W) ∧ s1.at' ≤ m) ∨ (s1.hv = false ∧ s1.at' = m)
theorem InBr.punct (h : InBr ts1 ts2 p m) {s s1 : RdS} {x : List UInt8} (hl : s.at' < m) (he : punctF ts1 s x = .ok s1) : SimO p m W s1 (punctF ts2 (s.lift p W) x) := by
 unfold punctF at he ⊢
 split at he
 ·rename_i hx
  rw [if_pos hx]
  injection he with he
  subst he
  exact .inl ⟨rfl, hl⟩
 ·rename_i hx
  rw [if_neg hx]
  split at he
  ·rename_i hx2
   rw [if_pos hx2]
   rcases Nat.lt_or_ge (s.at' + 1) m with hm | hm
   ·rw [show (s.lift p W).at' + 1 = p + (s.at' + 1) from rfl, h.mark hm]
    split at he
    ·rename_i hp
     rw [if_pos hp]
     exact .inl (h.pair hm he)
    ·rename_i hp
     rw [if_neg hp]
     injection he with he
     subst he
     exact .inl ⟨rfl, hl⟩
   ·have hm' : s.at' + 1 = m := by omega
    rw [hm', h.mark_stop] at he
    rw [show (s.lift p W).at' + 1 = p + (s.at' + 1) from rfl, hm', h.mark_close 93 (by decide) (by decide)]
    rw [if_neg (by decide)] at he ⊢
    injection he with he
    subst he
    exact .inl ⟨rfl, hl⟩
  ·rename_i hx2
   rw [if_neg hx2]
   split at he
   ·rename_i hx3
    rw [if_pos hx3]
    rcases Nat.lt_or_ge (s.at' + 1) m with hm | hm
    ·rw [show (s.lift p W).at' + 1 = p + (s.at' + 1) from rfl, h.mark hm]
     split at he
     ·rename_i hp
      rw [if_pos hp]
      exact .inl (h.pair hm he)
     ·rename_i hp
      rw [if_neg hp]
      injection he with he
      subst he
      exact .inl ⟨rfl, hl⟩
    ·have hm' : s.at' + 1 = m := by omega
     rw [hm', h.mark_stop, if_neg (by decide)] at he
     injection he with he
     subst he
     exact .inr ⟨rfl, hm'⟩
   ·cases he
theorem InBr.begins (h : InBr ts1 ts2 p m) (i : Nat) (hi : i ≤ m) : beginsF o (peekF ts2 (p + i)) = beginsF o (peekF ts1 i) := by
 rcases Nat.lt_or_ge i m with hm | hm
 ·obtain ⟨a1, a2, a3, a4⟩ := h.same i hm
  unfold beginsF
  rw [a1, a3, a4]
 ·obtain rfl : i = m := by omega
  have e1 : beginsF o (peekF ts1 i) = false := by
   unfold beginsF
   rw [h.stop]
   rfl
  have e2 : beginsF o (peekF ts2 (p + i)) = false := by
   unfold beginsF
   rw [h.close.1]
   rcases h.close.2 with h3 | h3 <;> rw [h3] <;> rfl
  rw [e1, e2]
theorem InBr.atom (h : InBr ts1 ts2 p m) {s s1 : RdS} {t t2 : Tok} (hl : s.at' < m) (ht : t.alike t2) (he : atomF o ts1 s t = .ok s1) : atomF o ts2 (s.lift p W) t2 = .ok (s1.lift p W) ∧ s1.at' ≤ m := by
 obtain ⟨a1, a2, a3, a4⟩ := ht
 unfold atomF at he ⊢
 dsimp only at he ⊢
 rw [a1, a3, a4, show (s.lift p W).at' + 1 = p + (s.at' + 1) from rfl, h.begins (s.at' + 1) hl, show (s.lift p W).most = s.most from rfl]
 have hneg : ((peekF ts2 (p + (s.at' + 1))).kind = 3 ∧ (peekF ts2 (p + (s.at' + 1))).tight = true) ↔ ((peekF ts1 (s.at' + 1)).kind = 3 ∧ (peekF ts1 (s.at' + 1)).tight = true) := by
  rcases Nat.lt_or_ge (s.at' + 1) m with hm | hm
  ·rw [(h.same _ hm).1, h.tight _ (by omega) hm]
  ·have hm' : s.at' + 1 = m := by omega
   rw [hm', h.stop, h.close.1]
   simp
 by_cases h1 : t.kind = 1 ∧ t.s = [45] ∧ (peekF ts1 (s.at' + 1)).kind = 3 ∧ (peekF ts1 (s.at' + 1)).tight = true
 ·rw [if_pos h1] at he
  rw [if_pos ⟨h1.1, h1.2.1, hneg.2 h1.2.2⟩]
  have hm : s.at' + 1 < m := by
   rcases Nat.lt_or_ge (s.at' + 1) m with hm | hm
   ·exact hm
   ·have hm' : s.at' + 1 = m := by omega
    have h5 := h1.2.2.1
    rw [hm', h.stop] at h5
    cases h5
  injection he with he
  subst he
  rw [(h.same _ hm).2.1]
  exact ⟨rfl, hm⟩
 ·rw [if_neg h1] at he
  rw [if_neg (fun hh => h1 ⟨hh.1, hh.2.1, hneg.1 hh.2.2⟩)]
  split at he
  ·rename_i ho
   rw [if_pos ho]
   exact h.args (s := s.go 1) hl he
  ·rename_i ho
   rw [if_neg ho]
   split at he
   ·rename_i hpre
    rw [if_pos hpre]
    injection he with he
    subst he
    exact ⟨rfl, hl⟩
   ·rename_i hpre
    rw [if_neg hpre]
    injection he with he
    subst he
    exact ⟨rfl, hl⟩
theorem InBr.primary (h : InBr ts1 ts2 p m) {s s1 : RdS} (hl : s.at' ≤ m) (he : primaryF o ts1 s = .ok s1) : SimO p m W s1 (primaryF o ts2 (s.lift p W)) := by
 rcases Nat.lt_or_ge s.at' m with hm | hm
 ·obtain ⟨a1, a2, a3, a4⟩ := h.same s.at' hm
  unfold primaryF at he ⊢
  dsimp only at he ⊢
  rw [show (s.lift p W).at' = p + s.at' from rfl, a1, a2, a3]
  split at he
  ·rename_i hk
   rw [if_pos hk]
   split at he
   ·cases he
   ·rename_i hn
    rw [if_neg hn]
    injection he with he
    subst he
    exact .inl ⟨rfl, hm⟩
  ·rename_i hk
   rw [if_neg hk]
   split at he
   ·rename_i hk2
    rw [if_pos hk2]
    injection he with he
    subst he
    exact .inl ⟨congrArg Except.ok (var_lift (s.go 1) _), by rw [(var_at _ _).1]; exact hm⟩
   ·rename_i hk2
    rw [if_neg hk2]
    split at he
    ·rename_i hk3
     rw [if_pos hk3]
     injection he with he
     subst he
     exact .inl ⟨rfl, hm⟩
    ·rename_i hk3
     rw [if_neg hk3]
     split at he
     ·rename_i hk4
      rw [if_pos hk4]
      exact h.punct hm he
     ·rename_i hk4
      rw [if_neg hk4]
      split at he
      ·rename_i hk5
       rw [if_pos hk5]
       exact .inl (h.atom hm ⟨a1, a2, a3, a4⟩ he)
      ·cases he
 ·have hm' : s.at' = m := by omega
  unfold primaryF at he
  dsimp only at he
  rw [hm', h.stop] at he
  simp at he
theorem InBr.operator (h : InBr ts1 ts2 p m) {s : RdS} (hl : s.at' ≤ m) : operatorF o ts2 (s.lift p W) = (operatorF o ts1 s).map (·.lift p W) ∧ ∀ s1, operatorF o ts1 s = some s1 → s1.at' ≤ m := by
 rcases Nat.lt_or_ge s.at' m with hm | hm
 ·obtain ⟨a1, a2, a3, a4⟩ := h.same s.at' hm
  unfold operatorF
  dsimp only
  rw [show (s.lift p W).at' = p + s.at' from rfl, a1, a3, h.mark hm, show (s.lift p W).most = s.most from rfl, show (s.lift p W).pri = s.pri from rfl, show (s.lift p W).t = s.t from rfl]
  split
  ·exact ⟨rfl, fun s1 h1 => by cases h1⟩
  ·split
   ·exact ⟨rfl, fun s1 h1 => by injection h1 with h1; subst h1; exact hm⟩
   ·split
    ·exact ⟨rfl, fun s1 h1 => by injection h1 with h1; subst h1; exact hm⟩
    ·exact ⟨rfl, fun s1 h1 => by cases h1⟩
 ·have hm' : s.at' = m := by omega
  have e1 : operatorF o ts1 s = none := by
   unfold operatorF
   dsimp only
   rw [hm', h.stop, h.mark_stop]
   rfl
  have e2 : operatorF o ts2 (s.lift p W) = none := by
   unfold operatorF
   dsimp only
   rw [show (s.lift p W).at' = p + s.at' from rfl, hm', h.close.1, h.mark_close 44 (by decide) (by decide)]
   rfl
  rw [e1, e2]
  exact ⟨rfl, fun s1 h1 => by cases h1⟩
theorem InBr.backs (h : InBr ts1 ts2 p m) {q s1 : RdS} {f : WaitF} (hq2 : q.at' ≤ m) (he : backG ts1 q f = .ok s1) : backG ts2 (q.lift p W) f = .ok (s1.lift p W) ∧ s1.at' ≤ m := by
 unfold backG at he ⊢
 rw [show (q.lift p W).t = q.t from rfl, show (q.lift p W).at' = p + q.at' from rfl]
 split at he
 ·rename_i hu
  rw [if_pos hu]
  exact h.expect_map hq2 (fun _ => rfl) (fun _ => rfl) he
 ·rename_i hu
  rw [if_neg hu]
  split at he
  ·rename_i hu
   rw [if_pos hu]
   exact h.expect_map hq2 (fun _ => rfl) (fun _ => rfl) he
  ·rename_i hu
   rw [if_neg hu]
   split at he
   ·rename_i hu
    rw [if_pos hu]
    injection he with he
    subst he
    exact ⟨rfl, hq2⟩
   ·rename_i hu
    rw [if_neg hu]
    split at he
    ·rename_i hu
     rw [if_pos hu]
     injection he with he
     subst he
     exact ⟨rfl, hq2⟩
    ·rename_i hu
     rw [if_neg hu]
     have hmark : ∀ c, c ≠ 41 → c ≠ 125 → isP ts2 (p + q.at') c = isP ts1 q.at' c := fun c h1 h2 => by
      rcases Nat.lt_or_ge q.at' m with hm | hm
      ·exact h.mark hm c
      ·rw [show q.at' = m by omega, h.mark_stop, h.mark_close c h1 h2]
     have hlt : ∀ c, isP ts1 q.at' c = true → q.at' < m := fun c hc => by
      rcases Nat.lt_or_ge q.at' m with hm | hm
      ·exact hm
      ·rw [show q.at' = m by omega, h.mark_stop] at hc
       cases hc
     split at he
     ·rename_i hu
      rw [if_pos hu, hmark 44 (by decide) (by decide)]
      split at he
      ·rename_i hp
       rw [if_pos hp]
       injection he with he
       subst he
       exact ⟨rfl, hlt _ hp⟩
      ·rename_i hp
       rw [if_neg hp]
       exact h.expect_map hq2 (fun _ => rfl) (fun _ => rfl) he
     ·rename_i hu
      rw [if_neg hu]
      split at he
      ·rename_i hu
       rw [if_pos hu, hmark 44 (by decide) (by decide), hmark 124 (by decide) (by decide)]
       split at he
       ·rename_i hp
        rw [if_pos hp]
        injection he with he
        subst he
        exact ⟨rfl, hlt _ hp⟩
       ·rename_i hp
        rw [if_neg hp]
        split at he
        ·rename_i hp
         rw [if_pos hp]
         injection he with he
         subst he
         exact ⟨rfl, hlt _ hp⟩
        ·rename_i hp
         rw [if_neg hp]
         exact h.expect_map hq2 (fun _ => rfl) (fun _ => rfl) he
      ·rename_i hu
       rw [if_neg hu]
       split at he
       ·rename_i hu
        rw [if_pos hu]
        exact h.expect_map hq2 (fun _ => rfl) (fun _ => rfl) he
       ·rename_i hu
        rw [if_neg hu]
        injection he with he
        subst he
        exact ⟨rfl, hq2⟩
theorem InBr.back (h : InBr ts1 ts2 p m) {s s1 : RdS} {f : WaitF} {r : List WaitF} (hl : s.at' ≤ m) (he : backF ts1 s f r = .ok s1) : backF ts2 (s.lift p W) f (r ++ W) = .ok (s1.lift p W) ∧ s1.at' ≤ m :=
 h.backs (W := W) (q := { s with wait := r, most := f.most }) hl he
theorem toO_on {x : Except Nat RdS} {s : RdS} (h : toO x = .on s) : x = .ok s := by
 cases x with
 | error a => cases h
 | ok y => injection h with h; rw [h]
theorem InBr.round (h : InBr ts1 ts2 p m) {s s1 : RdS} (hl : s.at' ≤ m) (he : roundF o ts1 s = .on s1) : (roundF o ts2 (s.lift p W) = .on (s1.lift p W) ∧ s1.at' ≤ m) ∨ (s1.hv = false ∧ s1.at' = m) := by
 unfold roundF at he ⊢
 rw [show (s.lift p W).hv = s.hv from rfl]
 split at he
 ·rename_i hv
  rw [if_pos hv]
  rcases h.primary (W := W) hl (toO_on he) with ⟨h1, h2⟩ | h1
  ·exact .inl ⟨by rw [h1]; rfl, h2⟩
  ·exact .inr h1
 ·rename_i hv
  rw [if_neg hv]
  obtain ⟨h1, h2⟩ := h.operator (o := o) (W := W) (s := s) hl
  rw [h1]
  cases ho : operatorF o ts1 s with
  | some x =>
   rw [ho] at he
   have hx : x = s1 := by injection he
   subst hx
   exact .inl ⟨rfl, h2 _ ho⟩
  | none =>
   rw [ho] at he
   simp only [Option.map_none] at he ⊢
   rw [show (s.lift p W).wait = s.wait ++ W from rfl]
   cases hw : s.wait with
   | nil =>
    rw [hw] at he
    simp only at he
    split at he <;> cases he
   | cons f r =>
    rw [hw] at he
    obtain ⟨h3, h4⟩ := h.back (W := W) hl (toO_on he)
    exact .inl ⟨by simp only [List.cons_append]; rw [h3]; rfl, h4⟩
theorem round_fin {ts : List Tok} {s s1 : RdS} (h : roundF o ts s = .fin s1) : s1 = s ∧ s.hv = true ∧ operatorF o ts s = none ∧ s.wait = [] ∧ (peekF ts s.at').kind = 7 := by
 unfold roundF at h
 split at h
 ·cases hp : primaryF o ts s <;> rw [hp] at h <;> cases h
 ·rename_i hv
  split at h
  ·cases h
  ·rename_i ho
   split at h
   ·rename_i f r hw
    cases hb : backF ts s f r <;> rw [hb] at h <;> cases h
   ·rename_i hw
    split at h
    ·cases h
    ·rename_i hk
     injection h with h
     exact ⟨h.symm, by simpa using hv, ho, hw, by simpa using hk⟩
theorem InBr.run (h : InBr ts1 ts2 p m) : ∀ (n : Nat) (s sf : RdS), leftF ts1 s ≤ n → s.at' ≤ m → endF o ts1 s = .fin sf → sf.at' = m → endF o ts2 (s.lift p W) = endF o ts2 (sf.lift p W) ∧ sf.hv = true ∧ sf.wait = [] := by
 intro n
 induction n with
 | zero =>
  intro s sf hn hl he hf
  rw [end_step] at he
  cases hr : roundF o ts1 s with
  | on s1 => have := round_less hr; omega
  | bad a => rw [hr] at he; cases he
  | fin s1 =>
   rw [hr] at he
   have hx : s1 = sf := by injection he
   subst hx
   obtain ⟨rfl, h2, _, h4, _⟩ := round_fin hr
   exact ⟨rfl, h2, h4⟩
 | succ n ih =>
  intro s sf hn hl he hf
  have he0 := he
  rw [end_step] at he
  cases hr : roundF o ts1 s with
  | on s1 =>
   rw [hr] at he
   simp only at he
   have hlt := round_less hr
   rcases h.round (W := W) hl hr with ⟨h1, h2⟩ | ⟨h1, h2⟩
   ·rw [end_step o ts2 (s.lift p W), h1]
    exact ih s1 sf (by omega) h2 he hf
   ·rw [end_step] at he
    have hb : roundF o ts1 s1 = .bad m := by
     unfold roundF
     rw [if_pos h1]
     unfold primaryF
     dsimp only
     rw [h2, h.stop]
     rfl
    rw [hb] at he
    cases he
  | bad a => rw [hr] at he; cases he
  | fin s1 =>
   rw [hr] at he
   have hx : s1 = sf := by injection he
   subst hx
   obtain ⟨rfl, h2, _, h4, _⟩ := round_fin hr
   exact ⟨rfl, h2, h4⟩
end
end Go.Proofs.YtcallkljcjimiaaGreatDoor
namespace Go.Proofs.YtcallkljcjimiaaGreatDoor
theorem on_end {o : OpsF} {ts : List Tok} {s s1 : RdS} (h : roundF o ts s = .on s1) : endF o ts s = endF o ts s1 := by rw [end_step, h]
theorem fin_end {o : OpsF} {ts : List Tok} {s s1 : RdS} (h : roundF o ts s = .fin s1) : endF o ts s = .fin s1 := by rw [end_step, h]
theorem read_ok {o : OpsF} {ts : List Tok} {i : Nat} {c : ClauseF} (h : readF o ts (i : Int) = (c, 0)) :
    i < ts.length ∧ (peekF ts i).kind ≠ 0 ∧ ∃ sf, endF o ts (startF i) = .fin sf ∧ sf.t.may = true ∧ sf.t.deep ≤ 2000 ∧ sf.t.size ≤ 20000 ∧ c = ⟨sf.t, sf.names, (peekF ts i).line, (sf.at' : Int) + 1⟩ := by
 unfold readF at h
 rw [Int.toNat_natCast] at h
 split at h
 ·cases h
 ·rename_i hc
  refine ⟨by omega, fun e => hc (.inr (.inr e)), ?_⟩
  change (match endF o ts (startF i) with
   | .on _ => _
   | .bad a => _
   | .fin s => _) = _ at h
  split at h
  ·cases h
  ·cases h
  ·rename_i s hs
   split at h
   ·cases h
   ·split at h
    ·cases h
    ·split at h
     ·cases h
     ·rename_i h1 h2 h3
      injection h with h _
      exact ⟨s, hs, by simpa using h1, by omega, by omega, h.symm⟩
section
variable {o : OpsF} {ts : List Tok}
end
section
variable {o : OpsF} {ts1 ts2 : List Tok} {m : Nat} {c : ClauseF}
end
end Go.Proofs.YtcallkljcjimiaaGreatDoor
namespace Go.Proofs.YtcallkljcjimiaaGreatDoor
structure Upto (o1 o2 : OpsF) (ts1 ts2 : List Tok) (m : Nat) : Prop where
 same : ∀ i, i ≤ m → peekF ts2 i = peekF ts1 i
 pre : ∀ i, i ≤ m → o2.pre (peekF ts1 i).s = o1.pre (peekF ts1 i).s
 inf : ∀ i, i ≤ m → o2.inf (peekF ts1 i).s = o1.inf (peekF ts1 i).s
 post : ∀ i, i ≤ m → o2.post (peekF ts1 i).s = o1.post (peekF ts1 i).s
 stop : (peekF ts1 m).kind = 7
def LeO (m : Nat) (x : Except Nat RdS) : Prop := ∀ s1, x = .ok s1 → s1.at' ≤ m
section
variable {o1 o2 : OpsF} {ts1 ts2 : List Tok} {m : Nat}
theorem Upto.mark (h : Upto o1 o2 ts1 ts2 m) {i : Nat} (hi : i ≤ m) (c : UInt8) : isP ts2 i c = isP ts1 i c := by
 unfold isP
 rw [h.same i hi]
theorem Upto.lt (h : Upto o1 o2 ts1 ts2 m) {i : Nat} (hi : i ≤ m) (hk : (peekF ts1 i).kind ≠ 7) : i < m := by
 rcases Nat.lt_or_ge i m with h1 | h1
 ·exact h1
 ·exfalso
  apply hk
  rw [show i = m by omega]
  exact h.stop
theorem Upto.mark_lt (h : Upto o1 o2 ts1 ts2 m) {i : Nat} (hi : i ≤ m) {c : UInt8} (hp : isP ts1 i c = true) : i < m := by
 apply h.lt hi
 unfold isP at hp
 simp at hp
 omega
theorem Upto.expect (h : Upto o1 o2 ts1 ts2 m) {s : RdS} (hi : s.at' ≤ m) (c : UInt8) : s.expect ts2 c = s.expect ts1 c ∧ LeO m (s.expect ts1 c) := by
 unfold RdS.expect
 rw [h.mark hi]
 refine ⟨rfl, fun s1 h1 => ?_⟩
 split at h1
 ·rename_i hp
  injection h1 with h1
  subst h1
  exact h.mark_lt hi hp
 ·cases h1
theorem Upto.expect_map (h : Upto o1 o2 ts1 ts2 m) {s : RdS} (hi : s.at' ≤ m) (c : UInt8) (f : RdS → RdS) (hf : ∀ x : RdS, (f x).at' = x.at') : (s.expect ts2 c).map f = (s.expect ts1 c).map f ∧ LeO m ((s.expect ts1 c).map f) := by
 obtain ⟨e1, e2⟩ := h.expect hi c
 rw [e1]
 refine ⟨rfl, fun s1 h1 => ?_⟩
 cases hx : s.expect ts1 c with
 | error a => rw [hx] at h1; cases h1
 | ok x =>
  rw [hx] at h1
  have h1' : f x = s1 := by injection h1
  subst h1'
  rw [hf]
  exact e2 x hx
theorem Upto.args (h : Upto o1 o2 ts1 ts2 m) {s : RdS} (hi : s.at' ≤ m) (n : List UInt8) : argsF ts2 s n = argsF ts1 s n ∧ LeO m (argsF ts1 s n) := by
 obtain ⟨e1, e2⟩ := h.expect hi 40
 unfold argsF
 rw [e1]
 refine ⟨rfl, fun s1 h1 => ?_⟩
 cases hx : s.expect ts1 40 with
 | error a => rw [hx] at h1; cases h1
 | ok x =>
  rw [hx] at h1
  injection h1 with h1
  subst h1
  exact e2 x hx
theorem Upto.pair (h : Upto o1 o2 ts1 ts2 m) {s : RdS} (hi : s.at' + 1 < m) (c : UInt8) : pairF ts2 s c = pairF ts1 s c ∧ LeO m (pairF ts1 s c) := by
 unfold pairF
 rw [h.same s.at' (by omega), h.same (s.at' + 1) (by omega)]
 obtain ⟨e1, e2⟩ := h.args (s := s.go 2) (show s.at' + 2 ≤ m by omega) ((peekF ts1 s.at').s ++ [c])
 dsimp only
 split
 ·exact ⟨e1, e2⟩
 ·refine ⟨rfl, fun s1 h1 => ?_⟩
  injection h1 with h1
  subst h1
  exact hi
theorem Upto.punct (h : Upto o1 o2 ts1 ts2 m) {s : RdS} (hi : s.at' < m) (x : List UInt8) : punctF ts2 s x = punctF ts1 s x ∧ LeO m (punctF ts1 s x) := by
 have go1 : ∀ f k, LeO m (Except.ok ((s.go 1).await f k)) := fun f k s1 h1 => by
  injection h1 with h1
  subst h1
  exact hi
 unfold punctF
 rw [h.mark (i := s.at' + 1) hi, h.mark (i := s.at' + 1) hi]
 split
 ·exact ⟨rfl, go1 _ _⟩
 ·split
  ·split
   ·rename_i hp
    exact h.pair (h.mark_lt hi hp) 93
   ·exact ⟨rfl, go1 _ _⟩
  ·split
   ·split
    ·rename_i hp
     exact h.pair (h.mark_lt hi hp) 125
    ·exact ⟨rfl, go1 _ _⟩
   ·exact ⟨rfl, fun s1 h1 => by cases h1⟩
theorem Upto.begins (h : Upto o1 o2 ts1 ts2 m) {i : Nat} (hi : i ≤ m) : beginsF o2 (peekF ts1 i) = beginsF o1 (peekF ts1 i) := by
 unfold beginsF
 rw [h.pre i hi, h.inf i hi, h.post i hi]
theorem Upto.atom (h : Upto o1 o2 ts1 ts2 m) {s : RdS} (hi : s.at' < m) : atomF o2 ts2 s (peekF ts1 s.at') = atomF o1 ts1 s (peekF ts1 s.at') ∧ LeO m (atomF o1 ts1 s (peekF ts1 s.at')) := by
 unfold atomF
 rw [h.same (s.at' + 1) hi, h.pre s.at' (by omega)]
 dsimp only
 rw [h.begins (i := s.at' + 1) hi]
 obtain ⟨e1, e2⟩ := h.args (s := s.go 1) (show s.at' + 1 ≤ m by omega) (peekF ts1 s.at').s
 rw [e1]
 refine ⟨rfl, ?_⟩
 split
 ·rename_i hp
  intro s1 h1
  injection h1 with h1
  subst h1
  exact h.lt (i := s.at' + 1) hi (by omega)
 ·split
  ·exact e2
  ·split
   ·intro s1 h1
    injection h1 with h1
    subst h1
    exact hi
   ·intro s1 h1
    injection h1 with h1
    subst h1
    exact hi
theorem Upto.primary (h : Upto o1 o2 ts1 ts2 m) {s : RdS} (hi : s.at' ≤ m) : primaryF o2 ts2 s = primaryF o1 ts1 s ∧ LeO m (primaryF o1 ts1 s) := by
 unfold primaryF
 rw [h.same s.at' hi]
 dsimp only
 split
 ·rename_i hk
  have hl := h.lt hi (by omega)
  refine ⟨rfl, ?_⟩
  split
  ·intro s1 h1
   cases h1
  ·intro s1 h1
   injection h1 with h1
   subst h1
   exact hl
 ·split
  ·rename_i hk
   have hl := h.lt hi (by omega)
   refine ⟨rfl, fun s1 h1 => ?_⟩
   injection h1 with h1
   subst h1
   rw [(var_at (s.go 1) (peekF ts1 s.at').s).1]
   exact hl
  ·split
   ·rename_i hk
    have hl := h.lt hi (by omega)
    refine ⟨rfl, fun s1 h1 => ?_⟩
    injection h1 with h1
    subst h1
    exact hl
   ·split
    ·rename_i hk
     exact h.punct (h.lt hi (by omega)) _
    ·split
     ·rename_i hk
      exact h.atom (h.lt hi (by omega))
     ·exact ⟨rfl, fun s1 h1 => by cases h1⟩
theorem Upto.operator (h : Upto o1 o2 ts1 ts2 m) {s : RdS} (hi : s.at' ≤ m) : operatorF o2 ts2 s = operatorF o1 ts1 s ∧ ∀ s1, operatorF o1 ts1 s = some s1 → s1.at' ≤ m := by
 have hlt : ¬((peekF ts1 s.at').kind ≠ 1 ∧ (peekF ts1 s.at').kind ≠ 2 ∧ isP ts1 s.at' 44 = false) → s.at' < m := by
  intro hn
  apply h.lt hi
  intro h7
  apply hn
  refine ⟨by omega, by omega, ?_⟩
  unfold isP
  rw [h7]
  rfl
 unfold operatorF
 rw [h.same s.at' hi, h.mark hi]
 dsimp only
 rw [h.inf s.at' hi, h.post s.at' hi]
 refine ⟨rfl, fun s1 h1 => ?_⟩
 split at h1
 ·cases h1
 ·rename_i hn
  have hl := hlt hn
  split at h1
  ·injection h1 with h1
   subst h1
   exact hl
  ·split at h1
   ·injection h1 with h1
    subst h1
    exact hl
   ·cases h1
theorem Upto.backs (h : Upto o1 o2 ts1 ts2 m) {s : RdS} (hi : s.at' ≤ m) (f : WaitF) : backG ts2 s f = backG ts1 s f ∧ LeO m (backG ts1 s f) := by
 unfold backG
 rw [h.mark hi 44, h.mark hi 124]
 dsimp only
 have ex : ∀ (c : UInt8) (g : RdS → RdS), (∀ x : RdS, (g x).at' = x.at') → (s.expect ts2 c).map g = (s.expect ts1 c).map g ∧ LeO m ((s.expect ts1 c).map g) := fun c g hg => h.expect_map hi c g hg
 have ok : ∀ x : RdS, x.at' = s.at' → LeO m (.ok x) := fun x hx s1 h1 => by
  injection h1 with h1
  subst h1
  omega
 have go1 : ∀ {c : UInt8}, isP ts1 s.at' c = true → ∀ f k, LeO m (.ok ((s.go 1).again f k)) := fun hp f k s1 h1 => by
  injection h1 with h1
  subst h1
  exact h.mark_lt hi hp
 split
 ·exact ex 41 _ fun x => rfl
 ·split
  ·exact ex 125 _ fun x => rfl
  ·split
   ·exact ⟨rfl, ok _ rfl⟩
   ·split
    ·exact ⟨rfl, ok _ rfl⟩
    ·split
     ·split
      ·rename_i hp
       exact ⟨rfl, go1 hp _ _⟩
      ·exact ex 41 _ fun x => rfl
     ·split
      ·split
       ·rename_i hp
        exact ⟨rfl, go1 hp _ _⟩
       ·split
        ·rename_i hp
         exact ⟨rfl, go1 hp _ _⟩
        ·exact ex 93 _ fun x => rfl
      ·split
       ·exact ex 93 _ fun x => rfl
       ·exact ⟨rfl, ok _ rfl⟩
theorem Upto.round (h : Upto o1 o2 ts1 ts2 m) {s : RdS} (hi : s.at' ≤ m) : roundF o2 ts2 s = roundF o1 ts1 s ∧ ∀ s1, roundF o1 ts1 s = .on s1 → s1.at' ≤ m := by
 unfold roundF
 obtain ⟨p1, p2⟩ := h.primary hi
 obtain ⟨q1, q2⟩ := h.operator hi
 rw [p1, q1, h.same s.at' hi]
 split
 ·exact ⟨rfl, fun s1 h1 => p2 s1 (toO_on h1)⟩
 ·split
  ·rename_i x hx
   refine ⟨rfl, fun s1 h1 => ?_⟩
   injection h1 with h1
   subst h1
   exact q2 _ hx
  ·split
   ·rename_i f r hw
    obtain ⟨b1, b2⟩ := h.backs (s := { s with wait := r, most := f.most }) hi f
    unfold backF
    rw [b1]
    exact ⟨rfl, fun s1 h1 => b2 s1 (toO_on h1)⟩
   ·refine ⟨rfl, fun s1 h1 => ?_⟩
    split at h1
    ·cases h1
    ·cases h1
theorem Upto.run (h : Upto o1 o2 ts1 ts2 m) : ∀ (n : Nat) (s : RdS), leftF ts1 s ≤ n → s.at' ≤ m → endF o2 ts2 s = endF o1 ts1 s
 | n, s, hn, hi => by
  obtain ⟨r1, r2⟩ := h.round hi
  rw [end_step o2, end_step o1, r1]
  cases hr : roundF o1 ts1 s with
  | on s1 =>
   have hl := round_less hr
   match n, hn with
   | 0, hn => omega
   | n + 1, hn => exact Upto.run h n s1 (by omega) (r2 s1 hr)
  | fin s1 => rfl
  | bad a => rfl
end
theorem end_stop (o : OpsF) (ts : List Tok) : ∀ (n : Nat) (s sf : RdS), leftF ts s ≤ n → endF o ts s = .fin sf → (peekF ts sf.at').kind = 7
 | n, s, sf, hn, he => by
  rw [end_step] at he
  cases hr : roundF o ts s with
  | on s1 =>
   rw [hr] at he
   have hl := round_less hr
   match n, hn with
   | 0, hn => omega
   | n + 1, hn => exact end_stop o ts n s1 sf (by omega) he
  | fin s1 =>
   rw [hr] at he
   injection he with he
   subst he
   obtain ⟨rfl, _, _, _, h7⟩ := round_fin hr
   exact h7
  | bad a => rw [hr] at he; cases he
end Go.Proofs.YtcallkljcjimiaaGreatDoor
namespace Go.Proofs.YtcallkljcjimiaaGreatDoor
def okF (f : WaitF) : Prop := (f.use = 5 ∨ f.use = 6 ∨ f.use = 0 ∨ f.use = 1 ∨ f.use = 2 ∨ f.use = 3 ∨ f.use = 4) ∧ (f.use = 0 ∨ f.use = 1 ∨ f.use = 5 → f.l = [])
def UseOk (s : RdS) : Prop := ∀ f ∈ s.wait, okF f
section
variable {o : OpsF} {ts : List Tok} {s s' : RdS}
theorem use_await (h : UseOk s) (f : WaitF) (m : Int) (n : Nat) (hf : okF f) : UseOk ((s.go n).await f m) := by
 intro g hg
 rcases List.mem_cons.1 (show g ∈ { f with most := s.most } :: s.wait from hg) with rfl | hg
 ·exact hf
 ·exact h g hg
theorem args_use (h : UseOk s) {n : List UInt8} (ha : argsF ts s n = .ok s') : UseOk s' := by
 obtain ⟨rfl, _⟩ := args_ok ha
 exact use_await h _ _ 1 ⟨by simp, fun _ => rfl⟩
theorem pair_use (h : UseOk s) {c : UInt8} (ha : pairF ts s c = .ok s') : UseOk s' := by
 unfold pairF at ha
 dsimp only at ha
 split at ha
 ·exact args_use (s := s.go 2) h ha
 ·injection ha with ha
  subst ha
  exact h
theorem punct_use (h : UseOk s) {x : List UInt8} (ha : punctF ts s x = .ok s') : UseOk s' := by
 unfold punctF at ha
 split at ha
 ·injection ha with ha
  subst ha
  exact use_await h _ _ 1 ⟨by simp, fun _ => rfl⟩
 ·split at ha
  ·split at ha
   ·exact pair_use h ha
   ·injection ha with ha
    subst ha
    exact use_await h _ _ 1 ⟨by simp, fun _ => rfl⟩
  ·split at ha
   ·split at ha
    ·exact pair_use h ha
    ·injection ha with ha
     subst ha
     exact use_await h _ _ 1 ⟨by simp, fun _ => rfl⟩
   ·cases ha
theorem atom_use (h : UseOk s) {t : Tok} (ha : atomF o ts s t = .ok s') : UseOk s' := by
 unfold atomF at ha
 dsimp only at ha
 split at ha
 ·injection ha with ha
  subst ha
  exact h
 ·split at ha
  ·exact args_use (s := s.go 1) h ha
  ·split at ha
   ·injection ha with ha
    subst ha
    exact use_await h _ _ 1 ⟨by simp, fun _ => rfl⟩
   ·injection ha with ha
    subst ha
    exact h
theorem primary_use (h : UseOk s) (ha : primaryF o ts s = .ok s') : UseOk s' := by
 unfold primaryF at ha
 dsimp only at ha
 split at ha
 ·split at ha
  ·cases ha
  ·injection ha with ha
   subst ha
   exact h
 ·split at ha
  ·injection ha with ha
   subst ha
   intro f hf
   rw [(var_at (s.go 1) (peekF ts s.at').s).2.1] at hf
   exact h f hf
  ·split at ha
   ·injection ha with ha
    subst ha
    exact h
   ·split at ha
    ·exact punct_use h ha
    ·split at ha
     ·exact atom_use h ha
     ·cases ha
theorem operator_use (h : UseOk s) (ha : operatorF o ts s = some s') : UseOk s' := by
 unfold operatorF at ha
 dsimp only at ha
 split at ha
 ·cases ha
 ·split at ha
  ·injection ha with ha
   subst ha
   exact use_await h _ _ 1 ⟨by simp, fun e => by simp at e⟩
  ·split at ha
   ·injection ha with ha
    subst ha
    exact h
   ·cases ha
theorem expect_use {c : UInt8} {f : RdS → RdS} (h : (s.expect ts c).map f = .ok s') (hf : ∀ x : RdS, (f x).wait = x.wait) (hu : UseOk s) : UseOk s' := by
 obtain ⟨rfl, _⟩ := expect_map h
 intro g hg
 rw [hf] at hg
 exact hu g hg
theorem backG_use {f : WaitF} (h : UseOk s) (_hf : okF f) (ha : backG ts s f = .ok s') : UseOk s' := by
 have again : ∀ (g : WaitF), (g.use = 2 ∨ g.use = 3 ∨ g.use = 4) → ∀ m, UseOk ((s.go 1).again g m) := fun g hg m x hx => by
  rcases List.mem_cons.1 (show x ∈ g :: s.wait from hx) with rfl | hx
  ·exact ⟨by omega, fun e => by omega⟩
  ·exact h x hx
 unfold backG at ha
 dsimp only at ha
 split at ha
 ·exact expect_use ha (fun _ => rfl) h
 ·split at ha
  ·exact expect_use ha (fun _ => rfl) h
  ·split at ha
   ·injection ha with ha
    subst ha
    exact h
   ·split at ha
    ·injection ha with ha
     subst ha
     exact h
    ·split at ha
     ·rename_i h2
      split at ha
      ·injection ha with ha
       subst ha
       exact again ⟨f.use, f.most, f.name, f.pri, f.l ++ [s.t]⟩ (.inl h2) _
      ·exact expect_use ha (fun _ => rfl) h
     ·split at ha
      ·rename_i h3
       split at ha
       ·injection ha with ha
        subst ha
        exact again ⟨f.use, f.most, f.name, f.pri, f.l ++ [s.t]⟩ (.inr (.inl h3)) _
       ·split at ha
        ·injection ha with ha
         subst ha
         exact again _ (.inr (.inr rfl)) _
        ·exact expect_use ha (fun _ => rfl) h
      ·split at ha
       ·exact expect_use ha (fun _ => rfl) h
       ·injection ha with ha
        subst ha
        exact h
theorem round_num (hn : NumbOk s) (hu : UseOk s) (h : roundF o ts s = .on s') : NumbOk s' ∧ UseOk s' := by
 unfold roundF at h
 split at h
 ·rename_i hv
  have := toO_on h
  exact ⟨primary_num hv hn this, primary_use hu this⟩
 ·rename_i hv
  have hv : s.hv = true := by simpa using hv
  split at h
  ·rename_i x hx
   injection h with h
   subst h
   exact ⟨operator_num hv hn hx, operator_use hu hx⟩
  ·split at h
   ·rename_i f r hw
    have hb := toO_on h
    have hf : okF f := hu f (by rw [hw]; exact List.mem_cons_self ..)
    have hr : UseOk { s with wait := r, most := f.most } := fun g hg => hu g (by rw [hw]; exact List.mem_cons_of_mem _ hg)
    refine ⟨?_, backG_use hr hf hb⟩
    have hp := backG_pops hb hf.1 hf.2
    refine hn.keep ?_ hp.cnt hp.vars hp.names
    rw [hp.occ, occ_old hv, hw]
    show occW r ++ (varsL f.l ++ varsT s.t) = (occW r ++ varsL f.l) ++ varsT s.t
    rw [List.append_assoc]
   ·split at h
    ·cases h
    ·cases h
end
theorem end_num (o : OpsF) (ts : List Tok) : ∀ (n : Nat) (s sf : RdS), leftF ts s ≤ n → NumbOk s → UseOk s → endF o ts s = .fin sf → NumbOk sf ∧ sf.occ = varsT sf.t
 | n, s, sf, hn, hk, hu, he => by
  rw [end_step] at he
  cases hr : roundF o ts s with
  | on s1 =>
   rw [hr] at he
   have hl := round_less hr
   obtain ⟨h1, h2⟩ := round_num hk hu hr
   match n, hn with
   | 0, hn => omega
   | n + 1, hn => exact end_num o ts n s1 sf (by omega) h1 h2 he
  | fin s1 =>
   rw [hr] at he
   injection he with he
   subst he
   obtain ⟨rfl, hv, _, hw, _⟩ := round_fin hr
   refine ⟨hk, ?_⟩
   rw [occ_old hv, hw]
   rfl
  | bad a => rw [hr] at he; cases he
theorem start_num (i : Nat) : NumbOk (startF i) := by
 refine ⟨⟨0, rfl, rfl⟩, rfl, fun y hy => ?_, List.Pairwise.nil, List.Pairwise.nil, fun y hy => ?_⟩
 ·cases hy
 ·cases hy
structure RightOk (ts : List Tok) (c : ClauseF) : Prop where
 may : c.t.may = true
 deep : c.t.deep ≤ 2000
 size : c.t.size ≤ 20000
 next : ∃ k : Nat, 1 ≤ k ∧ k < ts.length ∧ c.next = (k : Int) + 1 ∧ (peekF ts k).kind = 7
 line : c.line = (peekF ts 0).line
 vars : ∃ k : Nat, firsts [] (varsT c.t) = upTo k
 low : ∀ y ∈ c.names, 0 ≤ y.2
 up : c.names.Pairwise (fun a b => a.2 < b.2)
 once : c.names.Pairwise (fun a b => a.1 ≠ b.1)
 blank : ∀ y ∈ c.names, y.1 ≠ [95]
theorem read_right {o : OpsF} {ts : List Tok} {c : ClauseF} (hr : readF o ts ((0 : Nat) : Int) = (c, 0)) : RightOk ts c := by
 obtain ⟨hl, hk, sf, he, h1, h2, h3, rfl⟩ := read_ok hr
 have h7 := end_stop o ts _ _ _ (Nat.le_refl _) he
 obtain ⟨hn, ho⟩ := end_num o ts _ _ _ (Nat.le_refl _) (start_num 0) (fun f hf => by cases hf) he
 obtain ⟨⟨k, _, hf⟩, hs, hlw, hup, honce, hbl⟩ := hn
 rw [ho] at hf
 refine ⟨h1, h2, h3, ⟨sf.at', ?_, peek_lt (by rw [h7]; decide), rfl, h7⟩, rfl, ⟨k, hf⟩, fun y hy => ?_, ?_, ?_, fun y hy => ?_⟩
 ·rcases Nat.eq_zero_or_pos sf.at' with h0 | h0
  ·exfalso
   rw [h0] at h7
   rw [end_step] at he
   have hb : roundF o ts (startF 0) = .bad 0 := by
    unfold roundF primaryF
    rw [if_pos (show (startF 0).hv = false from rfl)]
    simp only
    rw [show (startF 0).at' = 0 from rfl, h7]
    rfl
   rw [hb] at he
   cases he
  ·exact h0
 ·exact (hlw y (by rw [← hs]; exact hy)).1
 ·show sf.names.Pairwise _
  rw [hs]; exact hup
 ·show sf.names.Pairwise _
  rw [hs]; exact honce
 ·exact hbl y (by rw [← hs]; exact hy)
section
variable {o : OpsF} {ts : List Tok} {s s' : RdS} {M : Nat}
end
end Go.Proofs.YtcallkljcjimiaaGreatDoor
