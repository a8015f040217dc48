import Derived.Test.YtiffopheamnngaaGreatDoorJT42
import Derived.Test.YtiffopheamnngaaGreatDoorJT41
namespace Go.Proofs.YtiffopheamnngaaGreatDoor
section
variable {o : OpsF} {ts : List Tok} {s s' : RdS}
theorem var_names (s : RdS) (x : List UInt8) : (varF s x).names.length ≤ s.names.length + 1 := by
 unfold varF
 split
 ·exact Nat.le_succ _
 ·dsimp only
  split
  ·exact Nat.le_succ _
  ·show (s.names ++ _).length ≤ _
   rw [List.length_append]
   exact Nat.le_refl _
theorem primary_names (h : primaryF o ts s = .ok s') : s'.names.length ≤ s.names.length + 1 := by
 unfold primaryF at h
 dsimp only at h
 split at h
 ·split at h
  ·cases h
  ·injection h with h
   subst h
   exact Nat.le_succ _
 ·split at h
  ·injection h with h
   subst h
   exact var_names (s.go 1) _
  ·split at h
   ·injection h with h
    subst h
    exact Nat.le_succ _
   ·split at h
    ·rw [(punct_keeps h).names]
     exact Nat.le_succ _
    ·split at h
     ·rw [(atom_keeps h).names]
      exact Nat.le_succ _
     ·cases h
theorem operator_names (h : operatorF o ts s = some s') : s'.names = s.names := by
 unfold operatorF at h
 dsimp only at h
 split at h
 ·cases h
 ·split at h
  ·injection h with h
   subst h
   rfl
  ·split at h
   ·injection h with h
    subst h
    rfl
   ·cases h
theorem expect_names {c : UInt8} {f : RdS → RdS} (h : (s.expect ts c).map f = .ok s') (hf : ∀ x : RdS, (f x).names = x.names) : s'.names = s.names := by
 obtain ⟨rfl, _⟩ := expect_map h
 exact hf _
theorem backG_names {f : WaitF} (h : backG ts s f = .ok s') : s'.names = s.names := by
 unfold backG at h
 dsimp only at h
 split at h
 ·exact expect_names h fun _ => rfl
 ·split at h
  ·exact expect_names h fun _ => rfl
  ·split at h
   ·injection h with h
    subst h
    rfl
   ·split at h
    ·injection h with h
     subst h
     rfl
    ·split at h
     ·split at h
      ·injection h with h
       subst h
       rfl
      ·exact expect_names h fun _ => rfl
     ·split at h
      ·split at h
       ·injection h with h
        subst h
        rfl
       ·split at h
        ·injection h with h
         subst h
         rfl
        ·exact expect_names h fun _ => rfl
      ·split at h
       ·exact expect_names h fun _ => rfl
       ·injection h with h
        subst h
        rfl
theorem round_names (h : roundF o ts s = .on s') : s'.names.length ≤ s.names.length + 1 := by
 unfold roundF at h
 split at h
 ·exact primary_names (toO_on h)
 ·split at h
  ·rename_i x hx
   injection h with h
   subst h
   rw [operator_names hx]
   exact Nat.le_succ _
  ·split at h
   ·rename_i f r hw
    have := backG_names (toO_on h)
    rw [this]
    exact Nat.le_succ _
   ·split at h
    ·cases h
    ·cases h
end
theorem end_names (o : OpsF) (ts : List Tok) : ∀ (n : Nat) (s sf : RdS), leftF ts s ≤ n → endF o ts s = .fin sf → sf.names.length ≤ s.names.length + n
 | n, s, sf, hn, he => by
  rw [end_step] at he
  cases hr : roundF o ts s with
  | on s1 =>
   rw [hr] at he
   have hl := round_less hr
   have h1 := round_names hr
   match n, hn with
   | 0, hn => omega
   | n + 1, hn =>
    have := end_names o ts n s1 sf (by omega) he
    omega
  | fin s1 =>
   rw [hr] at he
   injection he with he
   subst he
   obtain ⟨rfl, _, _, _, _⟩ := round_fin hr
   omega
  | bad a => rw [hr] at he; cases he
theorem read_names {o : OpsF} {ts : List Tok} {i : Nat} {c : ClauseF} (hr : readF o ts (i : Int) = (c, 0)) : c.names.length ≤ 3 * ts.length + 1 := by
 obtain ⟨_, _, sf, he, _, _, _, rfl⟩ := read_ok hr
 have := end_names o ts _ _ _ (Nat.le_refl _) he
 have h2 : leftF ts (startF i) ≤ 3 * ts.length + 1 := by
  show 3 * (ts.length - i) + 0 + 1 ≤ _
  omega
 have h3 : (startF i).names.length = 0 := rfl
 show sf.names.length ≤ _
 omega
end Go.Proofs.YtiffopheamnngaaGreatDoor
namespace Go.Proofs.YtiffopheamnngaaGreatDoor
def Bwd (T : QT) : Prop := ∀ most q a, T most q = .error a → q.at' ≤ a
theorem need_err {α : Type} {ts : List Tok} {q : QS} {c : UInt8} {g : QS → α × QS} {a : Nat} (h : (needQ ts q c).map g = .error a) : a = q.at' := by
 unfold needQ at h
 split at h
 ·cases h
 ·injection h with h
  exact h.symm
theorem args_bad {ts : List Tok} {T : QT} (hF : Fwd T) (hT : Bwd T) : ∀ (k : Nat) (q : QS) (l : List Tm) (a : Nat), argsQ ts T k q l = .error a → q.at' ≤ a
 | 0, q, _, a, h => by
  injection h with h
  omega
 | k + 1, q, l, a, h => by
  unfold argsQ at h
  cases hx : T 999 q with
  | error b =>
   rw [hx] at h
   injection h with h
   rw [← h]
   exact hT _ _ _ hx
  | ok xq =>
   obtain ⟨x, q1⟩ := xq
   have h1 := hF 999 q x q1 hx
   rw [hx] at h
   dsimp only at h
   split at h
   ·have := args_bad hF hT k (q1.go 1) _ a h
    simp only [QS.go] at this
    omega
   ·cases h
theorem named_bad {o : OpsF} {ts : List Tok} {T : QT} (hF : Fwd T) (hT : Bwd T) {nm : List UInt8} {opn may : Bool} {most : Int} {q : QS} {a : Nat} (h : namedQ o ts T nm opn may most q = .error a) : q.at' ≤ a := by
 unfold namedQ at h
 split at h
 ·cases hn : needQ ts q 40 with
  | error b =>
   rw [hn] at h
   injection h with h
   have := need_err (g := fun s => ((), s)) (a := b) (by rw [hn]; rfl)
   omega
  | ok q1 =>
   rw [hn] at h
   dsimp only at h
   cases ha : argsQ ts T (ts.length + 1) q1 [] with
   | error b =>
    rw [ha] at h
    injection h with h
    have h1 := args_bad hF hT _ _ _ _ ha
    rw [(need_at hn).1] at h1
    simp only [QS.go] at h1
    omega
   | ok lq =>
    obtain ⟨l, q2⟩ := lq
    rw [ha] at h
    have h1 := args_lt hF _ _ _ _ _ ha
    have h2 := need_err h
    rw [(need_at hn).1] at h1
    simp only [QS.go] at h1
    omega
 ·split at h
  ·cases hx : T (o.pre nm).2 q with
   | error b =>
    rw [hx] at h
    injection h with h
    rw [← h]
    exact hT _ _ _ hx
   | ok xq =>
    obtain ⟨y, q1⟩ := xq
    rw [hx] at h
    cases h
  ·cases h
theorem paren_bad {ts : List Tok} {T : QT} (hF : Fwd T) (hT : Bwd T) {q : QS} {a : Nat} (h : parenQ ts T q = .error a) : q.at' ≤ a := by
 unfold parenQ at h
 cases hx : T 1200 (q.go 1) with
 | error b =>
  rw [hx] at h
  injection h with h
  have h1 := hT _ _ _ hx
  simp only [QS.go] at h1
  omega
 | ok xq =>
  obtain ⟨y, q1⟩ := xq
  rw [hx] at h
  have h1 := hF _ _ _ _ hx
  have h2 := need_err h
  simp only [QS.go] at h1
  omega
theorem brace_bad {ts : List Tok} {T : QT} (hF : Fwd T) (hT : Bwd T) {q : QS} {a : Nat} (h : braceQ ts T q = .error a) : q.at' ≤ a := by
 unfold braceQ at h
 cases hx : T 1200 (q.go 1) with
 | error b =>
  rw [hx] at h
  injection h with h
  have h1 := hT _ _ _ hx
  simp only [QS.go] at h1
  omega
 | ok xq =>
  obtain ⟨y, q1⟩ := xq
  rw [hx] at h
  have h1 := hF _ _ _ _ hx
  have h2 := need_err h
  simp only [QS.go] at h1
  omega
theorem list_bad {ts : List Tok} {T : QT} (hF : Fwd T) (hT : Bwd T) {q : QS} {a : Nat} (h : listQ ts T q = .error a) : q.at' ≤ a := by
 unfold listQ at h
 cases ha : argsQ ts T (ts.length + 1) (q.go 1) [] with
 | error b =>
  rw [ha] at h
  injection h with h
  have h1 := args_bad hF hT _ _ _ _ ha
  simp only [QS.go] at h1
  omega
 | ok lq =>
  obtain ⟨l, q1⟩ := lq
  rw [ha] at h
  have h1 := args_lt hF _ _ _ _ _ ha
  simp only [QS.go] at h1
  dsimp only at h
  split at h
  ·cases hx : T 999 (q1.go 1) with
   | error b =>
    rw [hx] at h
    injection h with h
    have h2 := hT _ _ _ hx
    simp only [QS.go] at h2
    omega
   | ok xq =>
    obtain ⟨y, q2⟩ := xq
    rw [hx] at h
    have h3 := hF _ _ _ _ hx
    have h2 := need_err h
    simp only [QS.go] at h3
    omega
  ·have h2 := need_err h
   omega
theorem primary_bad {o : OpsF} {ts : List Tok} {T : QT} (hF : Fwd T) (hT : Bwd T) {most : Int} {q : QS} {a : Nat} (h : primaryQ o ts T most q = .error a) : q.at' ≤ a := by
 have he : ∀ {b : Nat}, (Except.error q.at' : Except Nat ((Tm × Int) × QS)) = .error b → q.at' ≤ b := fun e => by
  injection e with e
  omega
 have hg : ∀ {k : Nat} {b : Nat}, (q.go k).at' ≤ b → q.at' ≤ b := fun e => by
  simp only [QS.go] at e
  omega
 unfold primaryQ at h
 dsimp only at h
 split at h
 ·split at h
  ·exact he h
  ·cases h
 ·split at h
  ·cases h
  ·split at h
   ·cases h
   ·split at h
    ·split at h
     ·exact paren_bad hF hT h
     ·split at h
      ·split at h
       ·exact hg (named_bad hF hT h)
       ·exact list_bad hF hT h
      ·split at h
       ·split at h
        ·exact hg (named_bad hF hT h)
        ·exact brace_bad hF hT h
       ·exact he h
    ·split at h
     ·split at h
      ·cases h
      ·exact hg (named_bad hF hT h)
     ·exact he h
theorem loop_badQ {o : OpsF} {ts : List Tok} {T : QT} (hF : Fwd T) (hT : Bwd T) (most : Int) : ∀ (k : Nat) (x : Tm) (p : Int) (q : QS) (a : Nat), loopQ o ts T most k x p q = .error a → q.at' ≤ a
 | 0, _, _, q, a, h => by
  injection h with h
  omega
 | k + 1, x, p, q, a, h => by
  unfold loopQ at h
  dsimp only at h
  split at h
  ·cases h
  ·split at h
   ·cases hx : T (o.inf (peekF ts q.at').s).2.2 (q.go 1) with
    | error b =>
     rw [hx] at h
     injection h with h
     have h1 := hT _ _ _ hx
     simp only [QS.go] at h1
     omega
    | ok xq =>
     obtain ⟨z, q1⟩ := xq
     rw [hx] at h
     have h1 := hF _ _ _ _ hx
     have h2 := loop_badQ hF hT most k _ _ _ _ h
     simp only [QS.go] at h1
     omega
   ·split at h
    ·have h2 := loop_badQ hF hT most k _ _ _ _ h
     simp only [QS.go] at h2
     omega
    ·cases h
theorem term_bad (o : OpsF) (ts : List Tok) : ∀ n, Bwd (termQ o ts n)
 | 0 => fun _ q a h => by
  injection h with h
  omega
 | n + 1 => fun most q a h => by
  have ht : termQ o ts (n + 1) most q = (match primaryQ o ts (termQ o ts n) most q with
   | .error a => .error a
   | .ok (x, s1) => loopQ o ts (termQ o ts n) most (ts.length + 1) x.1 x.2 s1) := rfl
  rw [ht] at h
  cases hx : primaryQ o ts (termQ o ts n) most q with
  | error b =>
   rw [hx] at h
   injection h with h
   rw [← h]
   exact primary_bad (term_fwd o ts n) (term_bad o ts n) hx
  | ok xq =>
   obtain ⟨y, q1⟩ := xq
   rw [hx] at h
   exact Nat.le_trans (Nat.le_of_lt (primary_lt (term_fwd o ts n) hx)) (loop_badQ (term_fwd o ts n) (term_bad o ts n) most _ _ _ _ _ h)
theorem behind_ge : ∀ (l : List Tok) (a : Nat), a ≤ behindF l a
 | [], a => Nat.le_refl _
 | t :: r, a => by
  unfold behindF
  split
  ·omega
  ·split
   ·omega
   ·have := behind_ge r (a + 1)
    omega
theorem behind_le : ∀ (l : List Tok) (a : Nat), behindF l a ≤ a + l.length
 | [], a => by simp [behindF]
 | t :: r, a => by
  unfold behindF
  rw [List.length_cons]
  split
  ·omega
  ·split
   ·omega
   ·have := behind_le r (a + 1)
    omega
theorem failed_next {ts : List Tok} {k a : Nat} (hk : k < ts.length) (hd : (peekF ts k).kind ≠ 0) (ha : k ≤ a) : ((k : Int) < (failedF ts a).next ∧ (failedF ts a).next ≤ ts.length) ∧ (failedF ts a).t = noTm ∧ (failedF ts a).names = [] := by
 unfold failedF
 split
 ·exact ⟨⟨by simp only; omega, Int.le_refl _⟩, rfl, rfl⟩
 ·rename_i h
  refine ⟨?_, rfl, rfl⟩
  simp only
  have hl : a < ts.length := by omega
  have h1 := behind_le (ts.drop a) a
  rw [List.length_drop] at h1
  refine ⟨?_, by omega⟩
  rw [List.drop_eq_getElem_cons hl]
  unfold behindF
  split
  ·omega
  ·split
   ·rename_i h0
    have hp : peekF ts a = ts[a] := by unfold peekF; rw [List.getD_eq_getElem?_getD, List.getElem?_eq_getElem hl]; rfl
    by_cases e : a = k
    ·subst e
     rw [hp] at hd
     exact absurd h0 hd
    ·omega
   ·have := behind_ge (ts.drop (a + 1)) (a + 1)
    omega
theorem look_lt {ts : List Tok} {a : Nat} (h : (peekF ts a).kind ≠ 0) : a < ts.length := by
 refine Nat.lt_of_not_le fun e => h ?_
 unfold peekF
 rw [List.getD_eq_getElem?_getD, List.getElem?_eq_none (by omega)]
 rfl
theorem read_on (o : OpsF) (ts : List Tok) (k : Nat) : (readF o ts (k : Int) = (⟨noTm, [], 0, 0⟩, 7)) ∨ ((k : Int) < (readF o ts (k : Int)).1.next ∧ (readF o ts (k : Int)).1.next ≤ ts.length ∧ (readF o ts (k : Int)).2 ≠ 7 ∧ ((readF o ts (k : Int)).2 = 0 ∨ (readF o ts (k : Int)).1.t = noTm ∧ (readF o ts (k : Int)).1.names = [])) := by
 rw [← readQ_eq]
 by_cases he : (k : Int) < 0 ∨ (ts.length : Int) ≤ (k : Int) ∨ (peekF ts (k : Int).toNat).kind = 0
 ·refine .inl ?_
  unfold readQ
  rw [if_pos he]
 ·refine .inr ?_
  have hk : k < ts.length := by omega
  have hd : (peekF ts k).kind ≠ 0 := fun e => he (.inr (.inr (by rw [Int.toNat_natCast]; exact e)))
  unfold readQ
  rw [if_neg he, Int.toNat_natCast]
  cases hx : termQ o ts (ts.length + 1) 1200 ⟨k, 0, []⟩ with
  | error a =>
   have h1 := term_bad o ts _ _ _ _ hx
   obtain ⟨h2, h3⟩ := failed_next hk hd h1
   exact ⟨h2.1, h2.2, (by show (6 : Int) ≠ 7; decide), .inr h3⟩
  | ok xq =>
   obtain ⟨x, q⟩ := xq
   have h1 := term_fwd o ts _ _ _ _ _ hx
   simp only at h1 ⊢
   split
   ·obtain ⟨h2, h3⟩ := failed_next hk hd (a := q.at') (by omega)
    exact ⟨h2.1, h2.2, (by show (6 : Int) ≠ 7; decide), .inr h3⟩
   ·rename_i h7
    have h8 := look_lt (ts := ts) (a := q.at') (by omega)
    split
    ·exact ⟨by simp only; omega, by simp only; omega, (by show (3 : Int) ≠ 7; decide), .inr ⟨rfl, rfl⟩⟩
    ·split
     ·exact ⟨by simp only; omega, by simp only; omega, (by show (4 : Int) ≠ 7; decide), .inr ⟨rfl, rfl⟩⟩
     ·split
      ·exact ⟨by simp only; omega, by simp only; omega, (by show (3 : Int) ≠ 7; decide), .inr ⟨rfl, rfl⟩⟩
      ·exact ⟨by simp only; omega, by simp only; omega, (by show (0 : Int) ≠ 7; decide), .inl rfl⟩
theorem read_size {o : OpsF} {ts : List Tok} {i : Int} {c : ClauseF} (h : readF o ts i = (c, 0)) : c.t.size ≤ 20000 := by
 have h9 : ∀ {a : ClauseF} {e : Int}, e ≠ 0 → (a, e) = (c, (0 : Int)) → c.t.size ≤ 20000 := fun he e => by
  injection e with _ e
  exact absurd e he
 rw [← readQ_eq] at h
 unfold readQ at h
 split at h
 ·exact h9 (by decide) h
 ·split at h
  ·exact h9 (by decide) h
  ·split at h
   ·exact h9 (by decide) h
   ·split at h
    ·exact h9 (by decide) h
    ·split at h
     ·exact h9 (by decide) h
     ·split at h
      ·exact h9 (by decide) h
      ·injection h with h
       rw [← h]
       simp only
       omega
theorem read_fit (o : OpsF) (ts : List Tok) (k : Nat) : (readF o ts (k : Int)).1.t.size ≤ 20000 ∧ (readF o ts (k : Int)).1.names.length ≤ 3 * ts.length + 1 := by
 rcases read_on o ts k with h | ⟨-, -, -, h | ⟨h1, h2⟩⟩
 ·rw [h]
  exact ⟨by decide, Nat.zero_le _⟩
 ·have e : readF o ts (k : Int) = ((readF o ts (k : Int)).1, 0) := by rw [← h]
  exact ⟨read_size e, read_names e⟩
 ·rw [h1, h2]
  exact ⟨by decide, Nat.zero_le _⟩
def nOk (n : Int) : Prop := -9223372036854775808 ≤ n ∧ n ≤ 9223372036854775807
theorem tops_ok (v : Nat) (h : ¬ 9223372036854775808 < v) : nOk (tops v) := by
 unfold tops nOk
 split <;> omega
theorem parseF_ok (base : Nat) (l : List UInt8) : nOk (parseF base l).1 := by
 unfold parseF
 split
 ·simp [nOk]
 ·split
  ·simp [nOk]
  ·exact tops_ok _ (by assumption)
theorem byte_ok (c : UInt8) : nOk (c.toNat : Int) := by
 have := c.toNat_lt
 unfold nOk
 omega
theorem digitsF_ok {base frm : Nat} {l : List UInt8} {x : Int × Nat} (h : digitsF base l frm = some x) : nOk x.1 := by
 unfold digitsF at h
 simp only at h
 split at h
 ·injection h with h
  subst h
  exact parseF_ok _ _
 ·cases h
theorem slashRes_ok {y : Option (List UInt8 × Nat)} {x : Int × Nat} (h : slashRes y = some x) : nOk x.1 := by
 unfold slashRes at h
 split at h
 ·cases h; exact byte_ok _
 ·cases h
theorem charF_ok {l : List UInt8} {x : Int × Nat} (h : charF l = some x) : nOk x.1 := by
 unfold charF at h
 split at h
 ·unfold charAt2 at h
  split at h
  ·cases h
  split at h
  ·split at h
   ·cases h
    simp [nOk]
   ·cases h
  split at h
  ·unfold charSlash at h
   split at h
   ·cases h
   ·exact slashRes_ok h
  ·cases h
   exact byte_ok _
 ·cases h
theorem numberF_ok {l : List UInt8} {x : Int × Nat} (h : numberF l = some x) : nOk x.1 := by
 unfold numberF at h
 split at h
 ·exact digitsF_ok h
 split at h
 ·exact digitsF_ok h
 split at h
 ·exact digitsF_ok h
 split at h
 ·exact charF_ok h
 ·exact digitsF_ok h
theorem tokF_ok {l : List UInt8} {t : TokIs} (h : tokF l = some t) : nOk t.n ∧ 0 ≤ t.kind ∧ t.kind ≤ 7 := by
 have z : nOk 0 := by simp [nOk]
 cases l with
 | nil => cases h
 | cons c r =>
  unfold tokF at h
  simp only at h
  split at h
  ·cases h; exact ⟨z, by simp, by simp⟩
  ·split at h
   ·cases h; exact ⟨z, by simp, by simp⟩
   ·split at h
    ·cases h; exact ⟨z, by simp, by simp⟩
    ·split at h
     ·cases h; exact ⟨z, by simp, by simp⟩
     ·split at h
      ·cases h; exact ⟨z, by simp, by simp⟩
      ·split at h
       ·cases hn : numberF (c :: r) with
        | none => rw [hn] at h; cases h
        | some x => rw [hn] at h; cases h; exact ⟨numberF_ok hn, by simp, by simp⟩
       ·split at h
        ·cases hn : getQ 39 r with
         | none => rw [hn] at h; cases h
         | some x => rw [hn] at h; cases h; exact ⟨z, by simp, by simp⟩
        ·split at h
         ·cases hn : getQ 34 r with
          | none => rw [hn] at h; cases h
          | some x => rw [hn] at h; cases h; exact ⟨z, by simp, by simp⟩
         ·split at h
          ·cases h; exact ⟨z, by simp, by simp⟩
          ·cases h
structure TkOk (M : Nat) (t : Tok) : Prop where
 short : t.s.length ≤ M
 n : nOk t.n
 k0 : 0 ≤ t.kind
 k7 : t.kind ≤ 7
theorem lexF_ok (M : Nat) : ∀ (f : Nat) (l : List UInt8) (line : Nat) (first : Bool), l.length < f → l.length ≤ M → (∀ t ∈ (lexF f l line first).1, TkOk M t) ∧ (lexF f l line first).1.length ≤ l.length + 1 := by
 intro f
 induction f with
 | zero => intro l line first h; omega
 | succ f ih =>
  intro l line first hf hM
  simp only [lexF]
  split
  ·exact ⟨fun t ht => (by simp at ht), (by simp)⟩
  ·split
   ·refine ⟨fun t ht => ?_, by simp⟩
    rw [List.mem_singleton] at ht
    subst ht
    exact ⟨Nat.zero_le _, by simp [nOk], by simp, by simp⟩
   ·cases ht : tokF (skipB l).1 with
    | none => exact ⟨fun t ht => (by simp at ht), (by simp)⟩
    | some t =>
     simp only
     have h1 := tokF_pos ht
     have h2 := skipB_len l
     have hne : 0 < (skipB l).1.length := List.length_pos_iff.2 (by assumption)
     have h3 := tokF_le ht
     have h4 := tokF_short ht
     obtain ⟨h5, h6, h7⟩ := tokF_ok ht
     have hd : ((skipB l).1.drop t.len).length = (skipB l).1.length - t.len := List.length_drop
     obtain ⟨g1, g2⟩ := ih ((skipB l).1.drop t.len) (line + lines (l.take (l.length - (skipB l).1.length)) + lines ((skipB l).1.take t.len)) false (by omega) (by omega)
     refine ⟨fun u hu => ?_, by simp only [List.length_cons]; omega⟩
     rcases List.mem_cons.1 hu with rfl | hu
     ·exact ⟨by simp only; omega, h5, h6, h7⟩
     ·exact g1 u hu
theorem lexB_ok (l : List UInt8) : (∀ t ∈ (lexB l).1, TkOk l.length t) ∧ (lexB l).1.length ≤ l.length + 1 := lexF_ok l.length _ l 1 true (Nat.lt_succ_self _) (Nat.le_refl _)
theorem volA_le (M : Nat) : ∀ l : List Tok, (∀ t ∈ l, t.s.length ≤ M) → volA l ≤ l.length * (2 + 2 * M)
 | [], _ => by simp [volA]
 | t :: r, h => by
  have h1 := volA_le M r fun t ht => h t (List.mem_cons_of_mem _ ht)
  have h2 := h t List.mem_cons_self
  have e : volA (t :: r) = (2 + 2 * t.s.length) + volA r := by simp [volA]
  rw [e, List.length_cons, Nat.add_mul]
  omega
end Go.Proofs.YtiffopheamnngaaGreatDoor
