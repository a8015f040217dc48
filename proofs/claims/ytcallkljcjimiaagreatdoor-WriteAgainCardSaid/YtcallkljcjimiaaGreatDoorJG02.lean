import Derived.Test.YtcallkljcjimiaaGreatDoorJG01
import Derived.Test.YtcallkljcjimiaaGreatDoorJW35
import Derived.WalkKit
import Derived.WalkSmall
import Derived.Lib.Hide
import Derived.Laws.AppendOwn
import Derived.Laws.MakeOwn
import Derived.Deep.OwnRows
import Derived.Test.YtcallkljcjimiaaGreatDoorProg
import Derived.KernelRfl
import Derived.Laws.AppendOwnNone
import Derived.Deep.AppendLies
import Derived.Deep.RegionLaw
import Derived.WalkSpells
import Derived.BigQuiet
import Derived.Deep.QuietTactic
import Derived.StillTailTactics
import Derived.IntWalk
import Derived.Maps.Keyed
import Derived.StringKeys
import Derived.Lib.ItoaMem
import Derived.Lib.ItoaNum
namespace Go.Proofs.YtcallkljcjimiaaGreatDoor
def dpW : List WaitF → Nat
 | [] => 0
 | f :: r => 1 + (Tm.deeps f.l + f.l.length) + dpW r
def RdS.dp (s : RdS) : Nat := (if s.hv = true then s.t.deep else 0) + dpW s.wait
section
variable {o : OpsF} {ts : List Tok} {s s' : RdS}
end
end Go.Proofs.YtcallkljcjimiaaGreatDoor
namespace Go.Proofs.YtcallkljcjimiaaGreatDoor
def allowI (t : TokIs) : Nat := allow ⟨t.kind, 0, t.n, t.s, false, false⟩
theorem allow_I (t : TokIs) (a : Int) (b c : Bool) : allow ⟨t.kind, a, t.n, t.s, b, c⟩ = allowI t := rfl
theorem digits_allow {base frm : Nat} {l : List UInt8} {x : Int × Nat} (h : digitsF base l frm = some x) : frm + 1 ≤ x.2 := by
 unfold digitsF at h
 dsimp only at h
 split at h
 ·rename_i hp
  cases h
  simp only
  by_cases hn : spanN (fun c => decide (digVal c < base)) (l.drop frm) = 0
  ·rw [hn] at hp
   unfold parseF at hp
   rw [if_pos (.inl (by simp))] at hp
   cases hp
  ·omega
 ·cases h
theorem char_allow {l : List UInt8} {x : Int × Nat} (h : charF l = some x) : 3 ≤ x.2 := by
 unfold charF at h
 split at h
 ·unfold charAt2 at h
  split at h
  ·cases h
  ·split at h
   ·split at h
    ·cases h; simp
    ·cases h
   ·split at h
    ·rename_i r _ _ _
     cases r with
     | nil => cases h
     | cons d r' =>
      have := slashRes_snd (show slashRes (getQ 39 [92, d, 39]) = some x from h)
      omega
    ·cases h
     simp
 ·cases h
theorem dec_one {l : List UInt8} {x : Int × Nat} (h : digitsF 10 l 0 = some x) (h1 : x.2 = 1) : (Lib.itoa x.1).length ≤ 1 := by
 unfold digitsF at h
 dsimp only at h
 split at h
 ·rename_i hp
  cases h
  simp only at h1 ⊢
  rw [Nat.zero_add] at h1
  rw [h1] at hp ⊢
  rw [List.drop_zero] at hp ⊢
  cases l with
  | nil =>
   unfold parseF at hp
   rw [if_pos (.inl (by simp))] at hp
   cases hp
  | cons c r =>
   rw [List.take_succ_cons, List.take_zero] at hp ⊢
   unfold parseF at hp ⊢
   split at hp
   ·cases hp
   ·rename_i hd
    split at hp
    ·cases hp
    ·rename_i hv
     rw [if_neg hd, if_neg hv]
     have hc : digVal c < 10 := by
      have : digitsIn 10 [c] = true := by
       cases hdi : digitsIn 10 [c] with
       | true => rfl
       | false => exact absurd (.inr hdi) hd
      unfold digitsIn at this
      simpa using this
     have hval : valOf 10 [c] = digVal c := by
      unfold valOf
      simp
     rw [hval]
     unfold tops
     rw [if_neg (by omega)]
     rw [Lib.itoa_nonneg, Lib.decDigits_length]
     exact dec_len 0 _ (by omega)
 ·cases h
theorem num_allow {l : List UInt8} {x : Int × Nat} (h : numberF l = some x) (hn : nOk x.1) : 3 + (Lib.itoa x.1).length ≤ 19 * x.2 := by
 have h30 := itoa_le hn
 unfold numberF at h
 split at h
 ·have := digits_allow h; omega
 ·split at h
  ·have := digits_allow h; omega
  ·split at h
   ·have := digits_allow h; omega
   ·split at h
    ·have := char_allow h; omega
    ·have h1 := digits_allow h
     by_cases h2 : x.2 = 1
     ·have := dec_one h h2
      omega
     ·omega
theorem tokF_allow {l : List UInt8} {t : TokIs} (h : tokF l = some t) : allowI t ≤ 19 * t.len := by
 have hpos := tokF_pos h
 obtain ⟨hn, -, -⟩ := tokF_ok h
 have hsh := tokF_short h
 cases l with
 | nil => cases h
 | cons c r =>
  unfold tokF at h
  simp only at h
  split at h
  ·cases h; exact Nat.zero_le _
  ·split at h
   ·cases h
    unfold allowI
    rw [allow_name (.inl rfl)]
    simp only at hsh hpos ⊢
    omega
   ·split at h
    ·cases h
     unfold allowI
     rw [allow_name (.inl rfl)]
     simp only at hsh hpos ⊢
     omega
    ·split at h
     ·cases h
      unfold allowI
      rw [allow_name (.inl rfl)]
      simp
     ·split at h
      ·cases h
       unfold allowI
       rw [allow_var rfl]
       simp only at hpos ⊢
       omega
      ·split at h
       ·cases hx : numberF (c :: r) with
        | none => rw [hx] at h; cases h
        | some x =>
         rw [hx] at h
         cases h
         unfold allowI
         rw [allow_num rfl]
         exact num_allow hx hn
       ·split at h
        ·cases hx : getQ 39 r with
         | none => rw [hx] at h; cases h
         | some x =>
          rw [hx] at h
          cases h
          have h1 := getQ_short (t := x.1) (n := x.2) hx
          unfold allowI
          rw [allow_name (.inr rfl)]
          simp only
          omega
        ·split at h
         ·cases hx : getQ 34 r with
          | none => rw [hx] at h; cases h
          | some x =>
           rw [hx] at h
           cases h
           have h1 := getQ_short (t := x.1) (n := x.2) hx
           unfold allowI
           rw [allow_codes rfl]
           simp only
           omega
         ·split at h
          ·cases h
           unfold allowI
           rw [allow_punct rfl]
           simp
          ·cases h
theorem lexF_allow : ∀ (f : Nat) (u : List UInt8) (line : Nat) (first : Bool), u.length < f → allows (lexF f u line first).1 ≤ 19 * u.length := by
 intro f
 induction f with
 | zero => intro u line first hf; omega
 | succ f ih =>
  intro u line first hf
  rw [lexF_step _ u _ _ hf]
  split
  ·exact Nat.zero_le _
  ·split
   ·exact Nat.zero_le _
   ·cases ht : tokF (skipB u).1 with
    | none => exact Nat.zero_le _
    | some t =>
     simp only
     have hlt := tokF_le ht
     have hpos := tokF_pos ht
     have hsl := skipB_len u
     have ha := tokF_allow ht
     rw [lexF_fuel (f + 1) f _ _ _ (by rw [List.length_drop]; omega) (by rw [List.length_drop]; omega)]
     have h1 := ih ((skipB u).1.drop t.len) (line + lines (u.take (u.length - (skipB u).1.length)) + lines ((skipB u).1.take t.len)) false (by rw [List.length_drop]; omega)
     rw [List.length_drop] at h1
     unfold allows at h1 ⊢
     rw [List.map_cons, List.sum_cons, allow_I]
     omega
theorem lex_allow (T : List UInt8) : allows (lexB T).1 ≤ 19 * T.length := by
 unfold lexB
 exact lexF_allow _ _ _ _ (Nat.lt_succ_self _)
def NumT (t : Tm) : Prop := t.fits = true ∧ t.low = true
theorem numT_all : ∀ l : List Tm, (∀ x ∈ l, NumT x) → Tm.fitss l = true ∧ Tm.lows l = true
 | [], _ => ⟨rfl, rfl⟩
 | t :: r, h => by
  obtain ⟨h1, h2⟩ := numT_all r fun x hx => h x (List.mem_cons_of_mem _ hx)
  obtain ⟨h3, h4⟩ := h t (List.mem_cons_self ..)
  rw [Tm.fitss, Tm.lows, h1, h2, h3, h4]
  exact ⟨rfl, rfl⟩
theorem numT_comp {s : List UInt8} {l : List Tm} (h : ∀ x ∈ l, NumT x) : NumT (compT s l) := by
 obtain ⟨h1, h2⟩ := numT_all l h
 unfold NumT compT
 rw [Tm.fits, Tm.low, h1, h2]
 exact ⟨by decide, by decide⟩
theorem numT_atom (s : List UInt8) : NumT (atomT s) := by
 unfold NumT atomT
 rw [Tm.fits, Tm.low]
 exact ⟨by simp [Tm.fitss], by simp [Tm.lows]⟩
theorem numT_int {n : Int} (h : -9223372036854775808 ≤ n ∧ n ≤ 9223372036854775807) : NumT (intT n) := by
 unfold NumT intT
 rw [Tm.fits, Tm.low]
 exact ⟨by simp [Tm.fitss, h], by simp [Tm.lows]⟩
theorem numT_var {n : Int} (h : 0 ≤ n ∧ n < 10000) : NumT (varT n) := by
 unfold NumT varT
 rw [Tm.fits, Tm.low]
 refine ⟨?_, ?_⟩
 ·simp only [Tm.fitss, Bool.and_true, decide_eq_true_eq]
  omega
 ·simp only [Tm.lows, Bool.and_true, Bool.or_eq_true, decide_eq_true_eq]
  exact .inr h.2
theorem numT_list : ∀ (l : List Tm) (t : Tm), (∀ x ∈ l, NumT x) → NumT t → NumT (listT l t)
 | [], t, _, h => h
 | x :: l, t, h, ht => by
  rw [show listT (x :: l) t = compT [46] [x, listT l t] from rfl]
  refine numT_comp fun y hy => ?_
  rcases List.mem_cons.1 hy with rfl | hy
  ·exact h _ (List.mem_cons_self ..)
  ·have hy : y = listT l t := by simpa using hy
   subst hy
   exact numT_list l t (fun z hz => h z (List.mem_cons_of_mem _ hz)) ht
structure LowS (ts : List Tok) (s : RdS) : Prop where
 t : s.hv = true → NumT s.t
 wait : ∀ f ∈ s.wait, ∀ x ∈ f.l, NumT x
 vars : ∀ y ∈ s.vars, 0 ≤ y.2 ∧ y.2 < 10000
 cnt : 0 ≤ s.cnt ∧ s.cnt ≤ (s.at' : Int)
section
variable {o : OpsF} {ts : List Tok} {s s' : RdS}
theorem LowS.go (h : LowS ts s) (n : Nat) : LowS ts (s.go n) := ⟨h.t, h.wait, h.vars, by have := h.cnt; show 0 ≤ s.cnt ∧ s.cnt ≤ ((s.at' + n : Nat) : Int); omega⟩
theorem LowS.done (h : LowS ts s) {t : Tm} (ht : NumT t) (p : Int) : LowS ts (s.done t p) := ⟨fun _ => ht, h.wait, h.vars, h.cnt⟩
theorem LowS.again (h : LowS ts s) {f : WaitF} (hf : ∀ x ∈ f.l, NumT x) (m : Int) : LowS ts (s.again f m) :=
 ⟨fun e => (by cases e), fun g hg => by
  rcases List.mem_cons.1 (show g ∈ f :: s.wait from hg) with rfl | hg
  ·exact hf
  ·exact h.wait g hg, h.vars, h.cnt⟩
theorem LowS.await (h : LowS ts s) {f : WaitF} (hf : ∀ x ∈ f.l, NumT x) (m : Int) : LowS ts (s.await f m) := LowS.again (f := { f with most := s.most }) h hf m
theorem args_low {n : List UInt8} (hl : LowS ts s) (h : argsF ts s n = .ok s') : LowS ts s' := by
 obtain ⟨rfl, -⟩ := args_ok h
 exact (hl.go 1).await (fun x hx => by cases hx) _
theorem pair_low {c : UInt8} (hl : LowS ts s) (h : pairF ts s c = .ok s') : LowS ts s' := by
 unfold pairF at h
 dsimp only at h
 split at h
 ·exact args_low (hl.go 2) h
 ·injection h with h
  subst h
  exact (hl.go 2).done (numT_atom _) _
theorem punct_low {x : List UInt8} (hl : LowS ts s) (h : punctF ts s x = .ok s') : LowS ts s' := by
 unfold punctF at h
 split at h
 ·injection h with h
  subst h
  exact (hl.go 1).await (fun x hx => by cases hx) _
 ·split at h
  ·split at h
   ·exact pair_low hl h
   ·injection h with h
    subst h
    exact (hl.go 1).await (fun x hx => by cases hx) _
  ·split at h
   ·split at h
    ·exact pair_low hl h
    ·injection h with h
     subst h
     exact (hl.go 1).await (fun x hx => by cases hx) _
   ·cases h
theorem neg_in {n : Int} (h : -9223372036854775808 ≤ n ∧ n ≤ 9223372036854775807) : -9223372036854775808 ≤ negI n ∧ negI n ≤ 9223372036854775807 := by
 unfold negI
 split <;> omega
def NumTs (ts : List Tok) : Prop := ∀ t ∈ ts, -9223372036854775808 ≤ t.n ∧ t.n ≤ 9223372036854775807
theorem NumTs.peek (h : NumTs ts) (i : Nat) : -9223372036854775808 ≤ (peekF ts i).n ∧ (peekF ts i).n ≤ 9223372036854775807 := by
 unfold peekF
 rw [List.getD_eq_getElem?_getD]
 cases hg : ts[i]? with
 | none => exact ⟨by decide, by decide⟩
 | some t => exact h t (List.mem_of_getElem? hg)
theorem atom_low {t : Tok} (hn : NumTs ts) (hl : LowS ts s) (h : atomF o ts s t = .ok s') : LowS ts s' := by
 unfold atomF at h
 dsimp only at h
 split at h
 ·injection h with h
  subst h
  exact (hl.go 2).done (numT_int (neg_in (hn.peek _))) _
 ·split at h
  ·exact args_low (hl.go 1) h
  ·split at h
   ·injection h with h
    subst h
    exact (hl.go 1).await (fun x hx => by cases hx) _
   ·injection h with h
    subst h
    exact (hl.go 1).done (numT_atom _) _
theorem var_low {x : List UInt8} (hl : LowS ts s) (h1 : 0 < s.at') (hc : s.cnt + 1 ≤ (s.at' : Int)) (h2 : s.at' ≤ 10000) : LowS ts (varF s x) := by
 have h0 := hl.cnt
 unfold varF
 split
 ·rename_i y hy
  exact hl.done (numT_var (hl.vars y (List.mem_of_find?_eq_some hy))) _
 ·dsimp only
  split
  ·exact ⟨fun _ => numT_var (by omega), hl.wait, hl.vars, by show 0 ≤ s.cnt + 1 ∧ s.cnt + 1 ≤ (s.at' : Int); omega⟩
  ·refine ⟨fun _ => numT_var (by omega), hl.wait, fun y hy => ?_, by show 0 ≤ s.cnt + 1 ∧ s.cnt + 1 ≤ (s.at' : Int); omega⟩
   rcases List.mem_append.1 (show y ∈ s.vars ++ [(x, s.cnt)] from hy) with hy | hy
   ·exact hl.vars y hy
   ·have hy : y = (x, s.cnt) := by simpa using hy
    subst hy
    simp only
    omega
theorem primary_low (hn : NumTs ts) (hf : ts.length ≤ 9999) (hl : LowS ts s) (h : primaryF o ts s = .ok s') : LowS ts s' := by
 unfold primaryF at h
 dsimp only at h
 split at h
 ·split at h
  ·cases h
  ·injection h with h
   subst h
   exact (hl.go 1).done (numT_int (hn.peek _)) _
 ·split at h
  ·rename_i hk
   have h1 : s.at' < ts.length := peek_lt (by rw [hk]; decide)
   have h2 := hl.cnt
   injection h with h
   subst h
   exact var_low (hl.go 1) (by show 0 < s.at' + 1; omega) (by show s.cnt + 1 ≤ ((s.at' + 1 : Nat) : Int); omega) (by show s.at' + 1 ≤ 10000; omega)
  ·split at h
   ·injection h with h
    subst h
    refine (hl.go 1).done (numT_list _ _ (fun x hx => ?_) (numT_atom _)) _
    obtain ⟨c, -, rfl⟩ := List.mem_map.1 hx
    have := c.toNat_lt
    exact numT_int (by omega)
   ·split at h
    ·exact punct_low hl h
    ·split at h
     ·exact atom_low hn hl h
     ·cases h
theorem operator_low (hl : LowS ts s) (hv : s.hv = true) (h : operatorF o ts s = some s') : LowS ts s' := by
 have ht : ∀ x ∈ [s.t], NumT x := fun x hx => by
  have hx : x = s.t := by simpa using hx
  subst hx
  exact hl.t hv
 unfold operatorF at h
 dsimp only at h
 split at h
 ·cases h
 ·split at h
  ·injection h with h
   subst h
   exact (hl.go 1).await ht _
  ·split at h
   ·injection h with h
    subst h
    exact (hl.go 1).done (numT_comp ht) _
   ·cases h
theorem numT_snoc {l : List Tm} {t : Tm} (hl : ∀ x ∈ l, NumT x) (ht : NumT t) : ∀ x ∈ l ++ [t], NumT x := fun x hx => by
 rcases List.mem_append.1 hx with hx | hx
 ·exact hl x hx
 ·have hx : x = t := by simpa using hx
  subst hx
  exact ht
theorem backG_low {f : WaitF} (hl : LowS ts s) (hv : s.hv = true) (hf : ∀ x ∈ f.l, NumT x) (h : backG ts s f = .ok s') : LowS ts s' := by
 have ht := hl.t hv
 have h1 : ∀ x ∈ [s.t], NumT x := fun x hx => by
  have hx : x = s.t := by simpa using hx
  subst hx
  exact ht
 have h2 := numT_snoc hf ht
 have ex : ∀ (c : UInt8) (g : RdS → RdS), (s.expect ts c).map g = .ok s' → LowS ts (g (s.go 1)) → LowS ts s' := fun c g h1 h2 => by
  obtain ⟨rfl, -⟩ := expect_map h1
  exact h2
 unfold backG at h
 split at h
 ·exact ex 41 _ h ((hl.go 1).done ht _)
 ·split at h
  ·exact ex 125 _ h ((hl.go 1).done (numT_comp h1) _)
  ·split at h
   ·injection h with h
    subst h
    exact hl.done (numT_comp h1) _
   ·split at h
    ·injection h with h
     subst h
     exact hl.done (numT_comp h2) _
    ·split at h
     ·dsimp only at h
      split at h
      ·injection h with h
       subst h
       exact (hl.go 1).again h2 _
      ·exact ex 41 _ h ((hl.go 1).done (numT_comp h2) _)
     ·split at h
      ·dsimp only at h
       split at h
       ·injection h with h
        subst h
        exact (hl.go 1).again h2 _
       ·split at h
        ·injection h with h
         subst h
         exact (hl.go 1).again h2 _
        ·exact ex 93 _ h ((hl.go 1).done (numT_list _ _ h2 (numT_atom _)) _)
      ·split at h
       ·exact ex 93 _ h ((hl.go 1).done (numT_list _ _ hf ht) _)
       ·injection h with h
        subst h
        exact hl
theorem round_low (hn : NumTs ts) (hf : ts.length ≤ 9999) (hl : LowS ts s) (h : roundF o ts s = .on s') : LowS ts s' := by
 unfold roundF at h
 split at h
 ·cases hp : primaryF o ts s with
  | error a => rw [hp] at h; cases h
  | ok x =>
   rw [hp] at h
   injection h with h
   subst h
   exact primary_low hn hf hl hp
 ·rename_i hv
  have hv : s.hv = true := by simpa using hv
  split at h
  ·rename_i x hx
   injection h with h
   subst h
   exact operator_low hl hv hx
  ·split at h
   ·rename_i f r hw
    cases hb : backF ts s f r with
    | error a => rw [hb] at h; cases h
    | ok x =>
     rw [hb] at h
     injection h with h
     subst h
     exact backG_low (s := { s with wait := r, most := f.most }) ⟨fun _ => hl.t hv, fun g hg => hl.wait g (by rw [hw]; exact List.mem_cons_of_mem _ hg), hl.vars, hl.cnt⟩ hv (hl.wait f (by rw [hw]; exact List.mem_cons_self ..)) hb
   ·split at h
    ·cases h
    ·cases h
end
theorem finL_of {o : OpsF} {ts : List Tok} {s s1 : RdS} (h : roundF o ts s = .fin s1) : s1 = s ∧ s.hv = true := by
 unfold roundF at h
 split at h
 ·cases hp : primaryF o ts s <;> rw [hp] at h <;> cases h
 ·rename_i hv
  split at h
  ·cases h
  ·split at h
   ·rename_i f r hw
    cases hb : backF ts s f r <;> rw [hb] at h <;> cases h
   ·split at h
    ·cases h
    ·injection h with h
     exact ⟨h.symm, by simpa using hv⟩
theorem end_low (o : OpsF) (ts : List Tok) (hT : NumTs ts) (hf : ts.length ≤ 9999) : ∀ (n : Nat) (s sf : RdS), leftF ts s ≤ n → LowS ts s → endF o ts s = .fin sf → NumT sf.t := by
 intro n
 induction n with
 | zero =>
  intro s sf hn hl he
  rw [end_step] at he
  cases hr : roundF o ts s with
  | on s1 => have := round_less hr; omega
  | bad a => rw [hr] at he; cases he
  | fin s1 =>
   rw [hr] at he
   have hx : s1 = sf := by injection he
   subst hx
   obtain ⟨rfl, h2⟩ := finL_of hr
   exact hl.t h2
 | succ n ih =>
  intro s sf hn hl he
  rw [end_step] at he
  cases hr : roundF o ts s with
  | on s1 =>
   rw [hr] at he
   simp only at he
   have h1 := round_less hr
   exact ih s1 sf (by omega) (round_low hT hf hl hr) he
  | bad a => rw [hr] at he; cases he
  | fin s1 =>
   rw [hr] at he
   have hx : s1 = sf := by injection he
   subst hx
   obtain ⟨rfl, h2⟩ := finL_of hr
   exact hl.t h2
theorem read_low {o : OpsF} {ts : List Tok} {i : Nat} {sf : RdS} (hT : NumTs ts) (hf : ts.length ≤ 9999) (h : endF o ts (startF i) = .fin sf) : NumT sf.t :=
 end_low o ts hT hf _ (startF i) sf (Nat.le_refl _) ⟨fun e => (by cases e), fun f hf => (by cases hf), fun y hy => (by cases hy), by show (0 : Int) ≤ 0 ∧ (0 : Int) ≤ (i : Int); omega⟩ h
end Go.Proofs.YtcallkljcjimiaaGreatDoor
namespace Go.Proofs.YtcallkljcjimiaaGreatDoor
mutual
def varsT : Tm → List Int | .mk k n _ l => (if k = 1 then [n] else []) ++ varsL l
def varsL : List Tm → List Int | [] => [] | t :: r => varsT t ++ varsL r
end
theorem varsL_app : ∀ l r : List Tm, varsL (l ++ r) = varsL l ++ varsL r
 | [], r => by simp [varsL]
 | t :: l, r => by rw [List.cons_append, varsL, varsL, varsL_app l r, List.append_assoc]
theorem varsL_one (t : Tm) : varsL [t] = varsT t := by simp [varsL]
theorem vars_comp (s : List UInt8) (l : List Tm) : varsT (compT s l) = varsL l := by simp [compT, varsT]
theorem vars_atom (s : List UInt8) : varsT (atomT s) = [] := by simp [atomT, varsT, varsL]
theorem vars_int (n : Int) : varsT (intT n) = [] := by simp [intT, varsT, varsL]
theorem vars_var (n : Int) : varsT (varT n) = [n] := by simp [varT, varsT, varsL]
theorem vars_list : ∀ (l : List Tm) (t : Tm), varsT (listT l t) = varsL l ++ varsT t
 | [], t => by simp [listT, varsL]
 | x :: l, t => by
  rw [show listT (x :: l) t = compT [46] [x, listT l t] from rfl, vars_comp, varsL, varsL_one, vars_list l t, varsL, List.append_assoc]
theorem vars_ints : ∀ s : List UInt8, varsL (s.map fun c => intT c.toNat) = []
 | [] => rfl
 | c :: s => by rw [List.map_cons, varsL, vars_ints s, vars_int]; rfl
def occW : List WaitF → List Int
 | [] => []
 | f :: r => occW r ++ varsL f.l
def RdS.occ (s : RdS) : List Int := occW s.wait ++ (if s.hv = true then varsT s.t else [])
def firsts : List Int → List Int → List Int
 | seen, [] => seen
 | seen, n :: r => if n ∈ seen then firsts seen r else firsts (seen ++ [n]) r
theorem firsts_app : ∀ (l r seen : List Int), firsts seen (l ++ r) = firsts (firsts seen l) r
 | [], _, _ => rfl
 | n :: l, r, seen => by
  rw [List.cons_append, firsts, firsts]
  split
  ·exact firsts_app l r seen
  ·exact firsts_app l r _
def upTo (k : Nat) : List Int := (List.range k).map fun (i : Nat) => (i : Int)
theorem upTo_succ (k : Nat) : upTo (k + 1) = upTo k ++ [(k : Int)] := by unfold upTo; rw [List.range_succ, List.map_append]; rfl
theorem mem_upTo (k : Nat) (n : Int) : n ∈ upTo k ↔ 0 ≤ n ∧ n < (k : Int) := by
 unfold upTo
 rw [List.mem_map]
 constructor
 ·rintro ⟨i, hi, rfl⟩
  have := List.mem_range.1 hi
  omega
 ·rintro ⟨h1, h2⟩
  exact ⟨n.toNat, List.mem_range.2 (by omega), by omega⟩
structure NumbOk (s : RdS) : Prop where
 cnt : ∃ k : Nat, s.cnt = (k : Int) ∧ firsts [] s.occ = upTo k
 same : s.names = s.vars
 low : ∀ y ∈ s.vars, 0 ≤ y.2 ∧ y.2 < s.cnt
 up : s.vars.Pairwise (fun a b => a.2 < b.2)
 once : s.vars.Pairwise (fun a b => a.1 ≠ b.1)
 blank : ∀ y ∈ s.vars, y.1 ≠ [95]
theorem NumbOk.keep {s s' : RdS} (h : NumbOk s) (h1 : s'.occ = s.occ) (h2 : s'.cnt = s.cnt) (h3 : s'.vars = s.vars) (h4 : s'.names = s.names) : NumbOk s' := by
 obtain ⟨a, b, c, d, e, f⟩ := h
 exact ⟨by rw [h1, h2]; exact a, by rw [h3, h4]; exact b, by rw [h2, h3]; exact c, by rw [h3]; exact d, by rw [h3]; exact e, by rw [h3]; exact f⟩
structure Keeps (s s' : RdS) (extra : List Int) : Prop where
 occ : s'.occ = occW s.wait ++ extra
 cnt : s'.cnt = s.cnt
 vars : s'.vars = s.vars
 names : s'.names = s.names
section
variable {o : OpsF} {ts : List Tok} {s s' : RdS}
theorem keeps_done (s : RdS) (t : Tm) (p : Int) (n : Nat) : Keeps s ((s.go n).done t p) (varsT t) := ⟨rfl, rfl, rfl, rfl⟩
theorem keeps_await (s : RdS) (f : WaitF) (m : Int) (n : Nat) : Keeps s ((s.go n).await f m) (varsL f.l) := ⟨by unfold RdS.occ; simp [RdS.await, RdS.again, RdS.go, occW], rfl, rfl, rfl⟩
theorem args_keeps {n : List UInt8} (h : argsF ts s n = .ok s') : Keeps s s' [] := by
 obtain ⟨rfl, _⟩ := args_ok h
 exact keeps_await s ⟨2, 0, n, 0, []⟩ 999 1
theorem Keeps.go {k : Nat} {e : List Int} (h : Keeps (s.go k) s' e) : Keeps s s' e := ⟨h.occ, h.cnt, h.vars, h.names⟩
theorem pair_keeps {c : UInt8} (h : pairF ts s c = .ok s') : Keeps s s' [] := by
 unfold pairF at h
 dsimp only at h
 split at h
 ·exact (args_keeps h).go
 ·injection h with h
  subst h
  have := keeps_done s (atomT ((peekF ts s.at').s ++ [c])) 0 2
  rw [vars_atom] at this
  exact this
theorem punct_keeps {x : List UInt8} (h : punctF ts s x = .ok s') : Keeps s s' [] := by
 unfold punctF at h
 split at h
 ·injection h with h
  subst h
  exact keeps_await s ⟨0, 0, [], 0, []⟩ 1200 1
 ·split at h
  ·split at h
   ·exact pair_keeps h
   ·injection h with h
    subst h
    exact keeps_await s ⟨3, 0, [], 0, []⟩ 999 1
  ·split at h
   ·split at h
    ·exact pair_keeps h
    ·injection h with h
     subst h
     exact keeps_await s ⟨1, 0, [], 0, []⟩ 1200 1
   ·cases h
theorem atom_keeps {t : Tok} (h : atomF o ts s t = .ok s') : Keeps s s' [] := by
 unfold atomF at h
 dsimp only at h
 split at h
 ·injection h with h
  subst h
  have := keeps_done s (intT (negI (peekF ts (s.at' + 1)).n)) 0 2
  rw [vars_int] at this
  exact this
 ·split at h
  ·exact (args_keeps h).go
  ·split at h
   ·injection h with h
    subst h
    exact keeps_await s ⟨5, 0, t.s, (o.pre t.s).1, []⟩ _ 1
   ·injection h with h
    subst h
    have := keeps_done s (atomT t.s) 0 1
    rw [vars_atom] at this
    exact this
theorem occ_new (h : s.hv = false) : s.occ = occW s.wait := by unfold RdS.occ; rw [if_neg (by rw [h]; decide), List.append_nil]
theorem occ_old (h : s.hv = true) : s.occ = occW s.wait ++ varsT s.t := by unfold RdS.occ; rw [if_pos h]
theorem Keeps.num {e : List Int} (h : Keeps s s' e) (hn : NumbOk s) (he : s.occ = occW s.wait ++ e) : NumbOk s' := hn.keep (h.occ.trans he.symm) h.cnt h.vars h.names
theorem var_num (hv : s.hv = false) (hn : NumbOk s) (x : List UInt8) : NumbOk (varF (s.go 1) x) := by
 obtain ⟨⟨k, hk, hf⟩, hs, hl, hu, ho, hb⟩ := hn
 rw [occ_new hv] at hf
 unfold varF
 rw [show (s.go 1).vars = s.vars from rfl]
 cases hfd : s.vars.find? (fun y => decide (y.1 = x)) with
 | some y =>
  simp only
  have hy := List.mem_of_find?_eq_some hfd
  have hlow := hl y hy
  refine ⟨⟨k, hk, ?_⟩, hs, hl, hu, ho, hb⟩
  show firsts [] (occW s.wait ++ varsT (varT y.2)) = _
  rw [firsts_app, hf, vars_var, firsts, if_pos ((mem_upTo k y.2).2 (by omega)), firsts]
 | none =>
  have hnx : ∀ y ∈ s.vars, y.1 ≠ x := fun y hy e => by
   have := List.find?_eq_none.1 hfd y hy
   simp [e] at this
  have hocc : firsts [] (occW s.wait ++ varsT (varT s.cnt)) = upTo (k + 1) := by
   rw [firsts_app, hf, vars_var, firsts, if_neg (fun h => by have := (mem_upTo k s.cnt).1 h; omega), firsts, upTo_succ, hk]
  simp only
  by_cases hx : x = [95]
  ·rw [if_pos hx]
   exact ⟨⟨k + 1, by show s.cnt + 1 = _; rw [hk]; rfl, hocc⟩, hs, fun y hy => by have := hl y hy; show _ ∧ _ < s.cnt + 1; omega, hu, ho, hb⟩
  ·rw [if_neg hx]
   refine ⟨⟨k + 1, by show s.cnt + 1 = _; rw [hk]; rfl, hocc⟩, ?_, fun y hy => ?_, ?_, ?_, fun y hy => ?_⟩
   ·show s.names ++ _ = s.vars ++ _
    rw [hs]
   ·rcases List.mem_append.1 (show y ∈ s.vars ++ [(x, s.cnt)] from hy) with h1 | h1
    ·have := hl y h1
     show _ ∧ _ < s.cnt + 1
     omega
    ·have : y = (x, s.cnt) := by simpa using h1
     subst this
     show 0 ≤ s.cnt ∧ s.cnt < s.cnt + 1
     omega
   ·show (s.vars ++ [(x, s.cnt)]).Pairwise _
    rw [List.pairwise_append]
    exact ⟨hu, by simp, fun a ha b hb' => by have : b = (x, s.cnt) := by simpa using hb'
                                             subst this
                                             exact (hl a ha).2⟩
   ·show (s.vars ++ [(x, s.cnt)]).Pairwise _
    rw [List.pairwise_append]
    exact ⟨ho, by simp, fun a ha b hb' => by have : b = (x, s.cnt) := by simpa using hb'
                                             subst this
                                             exact hnx a ha⟩
   ·rcases List.mem_append.1 (show y ∈ s.vars ++ [(x, s.cnt)] from hy) with h1 | h1
    ·exact hb y h1
    ·have : y = (x, s.cnt) := by simpa using h1
     subst this
     exact hx
theorem primary_num (hv : s.hv = false) (hn : NumbOk s) (h : primaryF o ts s = .ok s') : NumbOk s' := by
 have hocc : ∀ {e : List Int}, e = [] → s.occ = occW s.wait ++ e := fun he => by rw [occ_new hv, he, List.append_nil]
 unfold primaryF at h
 dsimp only at h
 split at h
 ·split at h
  ·cases h
  ·injection h with h
   subst h
   exact (keeps_done s _ 0 1).num hn (hocc (vars_int _))
 ·split at h
  ·injection h with h
   subst h
   exact var_num hv hn _
  ·split at h
   ·injection h with h
    subst h
    exact (keeps_done s _ 0 1).num hn (hocc (by rw [vars_list, vars_ints, show nilT = atomT [91, 93] from rfl, vars_atom]; rfl))
   ·split at h
    ·exact (punct_keeps h).num hn (hocc rfl)
    ·split at h
     ·exact (atom_keeps h).num hn (hocc rfl)
     ·cases h
theorem operator_num (hv : s.hv = true) (hn : NumbOk s) (h : operatorF o ts s = some s') : NumbOk s' := by
 unfold operatorF at h
 dsimp only at h
 split at h
 ·cases h
 ·split at h
  ·injection h with h
   subst h
   exact (keeps_await s ⟨6, 0, (peekF ts s.at').s, (o.inf (peekF ts s.at').s).1, [s.t]⟩ _ 1).num hn (by rw [occ_old hv, varsL_one])
  ·split at h
   ·injection h with h
    subst h
    exact (keeps_done s (compT (peekF ts s.at').s [s.t]) (o.post (peekF ts s.at').s).1 1).num hn (by rw [occ_old hv, vars_comp, varsL_one])
   ·cases h
structure Pops (s s' : RdS) (f : WaitF) : Prop where
 occ : s'.occ = occW s.wait ++ (varsL f.l ++ varsT s.t)
 cnt : s'.cnt = s.cnt
 vars : s'.vars = s.vars
 names : s'.names = s.names
theorem backG_pops {f : WaitF} (h : backG ts s f = .ok s') (hu : f.use = 5 ∨ f.use = 6 ∨ f.use = 0 ∨ f.use = 1 ∨ f.use = 2 ∨ f.use = 3 ∨ f.use = 4) (hl : f.use = 0 ∨ f.use = 1 ∨ f.use = 5 → f.l = []) : Pops s s' f := by
 have ex : ∀ (c : UInt8) (t : Tm) (p : Int), ((s.expect ts c).map fun s => s.done t p) = .ok s' → varsT t = varsL f.l ++ varsT s.t → Pops s s' f := fun c t p h1 h2 => by
  obtain ⟨rfl, _⟩ := expect_map h1
  exact ⟨by rw [← h2]; rfl, rfl, rfl, rfl⟩
 have ag : ∀ (g : WaitF), g.l = f.l ++ [s.t] → s' = (s.go 1).again g 999 → Pops s s' f := fun g h2 h3 => by
  subst h3
  refine ⟨?_, rfl, rfl, rfl⟩
  show (occW s.wait ++ varsL g.l) ++ [] = _
  rw [h2, varsL_app, varsL_one, List.append_nil]
 have e0 : f.l = [] → varsL f.l ++ varsT s.t = varsT s.t := fun h => by rw [h]; rfl
 unfold backG at h
 split at h
 ·rename_i hu0
  cases hx : s.expect ts 41 with
  | error a => rw [hx] at h; cases h
  | ok x =>
   rw [hx] at h
   obtain ⟨rfl, _⟩ := expect_ok hx
   injection h with h
   subst h
   exact ⟨by rw [e0 (hl (.inl hu0))]; rfl, rfl, rfl, rfl⟩
 ·split at h
  ·rename_i hu0
   cases hx : s.expect ts 125 with
   | error a => rw [hx] at h; cases h
   | ok x =>
    rw [hx] at h
    obtain ⟨rfl, _⟩ := expect_ok hx
    injection h with h
    subst h
    refine ⟨?_, rfl, rfl, rfl⟩
    rw [e0 (hl (.inr (.inl hu0)))]
    show occW s.wait ++ varsT (compT [123, 125] [s.t]) = _
    rw [vars_comp, varsL_one]
  ·split at h
   ·rename_i hu0
    injection h with h
    subst h
    refine ⟨?_, rfl, rfl, rfl⟩
    rw [e0 (hl (.inr (.inr hu0)))]
    show occW s.wait ++ varsT (compT f.name [s.t]) = _
    rw [vars_comp, varsL_one]
   ·split at h
    ·injection h with h
     subst h
     refine ⟨?_, rfl, rfl, rfl⟩
     show occW s.wait ++ varsT (compT f.name (f.l ++ [s.t])) = _
     rw [vars_comp, varsL_app, varsL_one]
    ·split at h
     ·dsimp only at h
      split at h
      ·injection h with h
       exact ag _ rfl h.symm
      ·cases hx : s.expect ts 41 with
       | error a => rw [hx] at h; cases h
       | ok x =>
        rw [hx] at h
        obtain ⟨rfl, _⟩ := expect_ok hx
        injection h with h
        subst h
        refine ⟨?_, rfl, rfl, rfl⟩
        show occW s.wait ++ varsT (compT f.name (f.l ++ [s.t])) = _
        rw [vars_comp, varsL_app, varsL_one]
     ·split at h
      ·dsimp only at h
       split at h
       ·injection h with h
        exact ag _ rfl h.symm
       ·split at h
        ·injection h with h
         exact ag _ rfl h.symm
        ·exact ex 93 _ 0 h (by rw [vars_list, varsL_app, varsL_one, show nilT = atomT [91, 93] from rfl, vars_atom, List.append_nil])
      ·split at h
       ·cases hx : s.expect ts 93 with
        | error a => rw [hx] at h; cases h
        | ok x =>
         rw [hx] at h
         obtain ⟨rfl, _⟩ := expect_ok hx
         injection h with h
         subst h
         refine ⟨?_, rfl, rfl, rfl⟩
         show occW s.wait ++ varsT (listT f.l s.t) = _
         rw [vars_list]
       ·omega
end
end Go.Proofs.YtcallkljcjimiaaGreatDoor
