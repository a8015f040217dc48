import Derived.Test.YtcallkljcjimiaaGreatDoorJG00
import Derived.Test.YtcallkljcjimiaaGreatDoorJW10
import Derived.LoopTactic
import Derived.Deep.LoopGhost
import Derived.IntWalk
import Derived.WalkKit
import Derived.WalkSmall
import Derived.Laws.AppendOwn
import Derived.Laws.MakeOwn
import Derived.Deep.OwnRows
import Derived.Laws.AppendOwnNone
import Derived.Deep.AppendLies
import Derived.Deep.RegionLaw
import Derived.Lib.Hide
import Derived.WalkSpells
import Derived.Test.YtcallkljcjimiaaGreatDoorProg
import Derived.KernelRfl
import Derived.BigQuiet
import Derived.Deep.QuietTactic
import Derived.StillTailTactics
import Derived.Maps.Keyed
import Derived.StringKeys
import Derived.Lib.ItoaMem
import Derived.Lib.ItoaNum
namespace Go.Proofs.YtcallkljcjimiaaGreatDoor
open Go.RowKit
set_option maxRecDepth 100000
theorem WalkInv.below {w : World} {b B : Nat} {st : List AbT} {pd : List (Tm × Nat)} {m : Meas} {v : Value} {u : World} (h : WalkInv w b B st pd m v u) (hB : B ≤ b) (hb : b < w.heap.size) : Below B w u := h.fr.below (by omega) (fun k hk => by omega)
mutual
def Tm.wgA : Tm → Nat | .mk k n s l => (if k = 1 then 8 else if k = 2 then 3 + (Lib.itoa n).length else 8 + 5 * s.length) + Tm.wgAs l
def Tm.wgAs : List Tm → Nat | [] => 0 | t :: r => t.wgA + Tm.wgAs r
end
mutual
def Tm.low : Tm → Bool | .mk k n _ l => (decide (k ≠ 1) || decide (n < 10000)) && Tm.lows l
def Tm.lows : List Tm → Bool | [] => true | t :: r => t.low && Tm.lows r
end
theorem lows_mem : ∀ (l : List Tm), Tm.lows l = true → ∀ x ∈ l, x.low = true
 | a :: l, h, x, hx => by
  rw [Tm.lows, Bool.and_eq_true] at h
  rcases List.mem_cons.1 hx with rfl | hx
  ·exact h.1
  ·exact lows_mem l h.2 x hx
structure WlT (t : Tm) : Prop where
 wf : WfT t
 low : t.low = true
theorem WlT.mem {t x : Tm} (h : WlT t) (hx : x ∈ t.args) : WlT x := by
 refine ⟨h.wf.mem hx, ?_⟩
 obtain ⟨k, n, s, l⟩ := t
 have := h.low
 rw [Tm.low, Bool.and_eq_true] at this
 exact lows_mem l this.2 x hx
theorem WlT.arg {t : Tm} (h : WlT t) {i : Nat} (hi : i < t.args.length) : WlT (t.args.getD i noTm) := h.mem (by rw [List.getD_eq_getElem?_getD, List.getElem?_eq_getElem hi]; exact List.getElem_mem hi)
theorem WlT.var {t : Tm} (h : WlT t) (hk : t.k = 1) : t.n < 10000 := by
 obtain ⟨k, n, s, l⟩ := t
 have := h.low
 rw [Tm.low, Bool.and_eq_true, Bool.or_eq_true] at this
 rcases this.1 with e | e
 ·exact absurd hk (of_decide_eq_true e)
 ·exact of_decide_eq_true e
theorem Tm.wgA_is (t : Tm) : t.wgA = (if t.k = 1 then 8 else if t.k = 2 then 3 + (Lib.itoa t.n).length else 8 + 5 * t.s.length) + Tm.wgAs t.args := by
 obtain ⟨k, n, s, l⟩ := t
 rw [Tm.wgA]
 rfl
theorem Tm.wgA_name {t : Tm} (h1 : t.k ≠ 1) (h2 : t.k ≠ 2) : t.wgA = 8 + 5 * t.s.length + Tm.wgAs t.args := by
 rw [Tm.wgA_is, if_neg h1, if_neg h2]
theorem wgA_two (l : List Tm) (h : l.length = 2) : Tm.wgAs l = (l.getD 0 noTm).wgA + (l.getD 1 noTm).wgA := by
 match l, h with
 | [a, b], _ =>
  show a.wgA + (b.wgA + 0) = a.wgA + b.wgA
  omega
theorem wgA_one (l : List Tm) (h : l.length = 1) : Tm.wgAs l = (l.getD 0 noTm).wgA := by
 match l, h with
 | [a], _ => rfl
theorem consF_wl : ∀ (f : Nat) (t : Tm), WlT t → (∀ x ∈ (consF f t).1, WlT x) ∧ WlT (consF f t).2
 | 0, t, h => ⟨fun x hx => (by cases hx), h⟩
 | f + 1, t, h => by
  unfold consF
  by_cases hc : consT t = true
  ·rw [if_pos hc]
   obtain ⟨_, _, h3⟩ := consT_len hc
   obtain ⟨i1, i2⟩ := consF_wl f (t.args.getD 1 noTm) (h.arg (by omega))
   refine ⟨fun x hx => ?_, i2⟩
   rcases List.mem_cons.1 hx with rfl | hx
   ·exact h.arg (by omega)
   ·exact i1 x hx
  ·rw [if_neg hc]
   exact ⟨fun x hx => (by cases hx), h⟩
theorem itoa_four {n : Int} (h0 : 0 ≤ n) (h : n < 10000) : (Lib.itoa n).length ≤ 4 := by
 obtain ⟨u, rfl⟩ : ∃ u : Nat, n = (u : Int) := ⟨n.toNat, by omega⟩
 rw [Lib.itoa_nonneg, Lib.decDigits_length]
 exact dec_len 3 u (by omega)
theorem esc_lenA (s : List UInt8) : (s.flatMap escB).length ≤ 5 * s.length := by
 have h5 : ∀ c : UInt8, (escB c).length ≤ 5 := fun c => by
  unfold escB hexOf
  (repeat' split) <;> simp
 induction s with
 | nil => simp
 | cons c r ih =>
  rw [List.flatMap_cons, List.length_append, List.length_cons]
  have := h5 c
  omega
theorem text_wgA (way : Int) (s : List UInt8) : (textF way s).length ≤ 5 * s.length + 2 := by
 have hf := esc_lenA s
 unfold textF
 split
 ·omega
 ·unfold putB quoteB
  split
  ·omega
  ·simp only [List.length_append, List.length_cons, List.length_nil]
   omega
theorem consF_wgA : ∀ (f : Nat) (t : Tm), Tm.wgAs (consF f t).1 + 13 * (consF f t).1.length + (consF f t).2.wgA ≤ t.wgA
 | 0, t => by show 0 + 13 * 0 + t.wgA ≤ _; omega
 | f + 1, t => by
  unfold consF
  by_cases hc : consT t = true
  ·rw [if_pos hc]
   obtain ⟨h1, h2, h3⟩ := consT_len hc
   have h4 := consF_wgA f (t.args.getD 1 noTm)
   have h5 := wgA_two t.args h3
   have h6 := t.wgA_name (by omega) (by omega)
   rw [h2, List.length_cons, List.length_nil] at h6
   simp only [Tm.wgAs, List.length_cons]
   omega
  ·rw [if_neg hc]
   show 0 + 13 * 0 + t.wgA ≤ _
   omega
section
variable {es : List (OpK × OpV)} {way : Int} {g : Tm → Int → List UInt8}
theorem comma_wgA : ∀ (l : List Tm), (∀ t ∈ l, ∀ m, (g t m).length + 3 ≤ t.wgA) → (commaF g l).length ≤ Tm.wgAs l
 | [], _ => Nat.zero_le _
 | [t], h => by
  have := h t (by simp) 999
  simp only [commaF, Tm.wgAs]
  omega
 | t :: u :: r, h => by
  have ih := comma_wgA (u :: r) (fun x hx => h x (List.mem_cons_of_mem _ hx))
  have h1 := h t (by simp) 999
  simp only [commaF, Tm.wgAs, List.length_cons, List.length_append] at ih ⊢
  omega
theorem operand_wgA (t : Tm) (h : ∀ m, (g t m).length + 3 ≤ t.wgA) (o : OpR) (same : Bool) : (operandF es way g t o same).length + 1 ≤ t.wgA := by
 have h1 := h 1200
 unfold operandF
 split
 ·simp only [List.length_cons, List.length_append, List.length_nil]
  omega
 ·omega
theorem oper_kind {t : Tm} {o : OpR} (ho : operF es way t = some o) : t.k = 4 := by
 unfold operF at ho
 split at ho
 ·cases ho
 ·rename_i h
  by_cases hk : t.k = 4
  ·exact hk
  ·exact absurd (.inr (.inl hk)) h
theorem operate_wgA {t : Tm} {o : OpR} (ho : operF es way t = some o) (h : ∀ i, i < t.args.length → ∀ m, (g (t.args.getD i noTm) m).length + 3 ≤ (t.args.getD i noTm).wgA) : (operateF es way g o t.args).length + 5 ≤ t.wgA := by
 obtain ⟨o1, o2, o3⟩ := oper_name ho
 have ht := text_wgA way o.name
 rw [o1] at ht
 have hk := oper_kind ho
 have h6 := t.wgA_name (by omega) (by omega)
 unfold operateF
 rcases o3 with ⟨hs, hl⟩ | ⟨hs, hl⟩
 ·have h0 := operand_wgA (es := es) (way := way) (t.args.getD 0 noTm) (h 0 (by omega)) o false
  have h2 := wgA_one _ hl
  rcases hs with hs | hs
  ·rw [if_pos hs]
   simp only [List.length_append, List.length_cons, o1]
   omega
  ·have n1 : ¬ o.side = 1 := by omega
   rw [if_neg n1, if_pos hs]
   simp only [List.length_append, List.length_cons, o1]
   omega
 ·have n1 : ¬ o.side = 1 := by omega
  have n3 : ¬ o.side = 3 := by omega
  have h0 := operand_wgA (es := es) (way := way) (t.args.getD 0 noTm) (h 0 (by omega)) o o.left
  have h1 := operand_wgA (es := es) (way := way) (t.args.getD 1 noTm) (h 1 (by omega)) o o.right
  have h2 := wgA_two _ hl
  rw [if_neg n1, if_neg n3]
  split
  ·simp only [List.length_append, List.length_cons, List.length_nil]
   omega
  ·simp only [List.length_append, List.length_cons, List.length_nil, o1]
   omega
theorem step_wgA (t : Tm) (most : Int) (hw : WlT t) (h : ∀ x : Tm, x.size < t.size → WlT x → ∀ m, (g x m).length + 3 ≤ x.wgA) : (wrStep es way g t most).length + 3 ≤ t.wgA := by
 have hp := size_pos t
 have ha : ∀ x ∈ t.args, ∀ m, (g x m).length + 3 ≤ x.wgA := fun x hx => h x (by have h1 := mem_sizes t.args x hx; have h2 := size_args t; omega) (hw.mem hx)
 have hd : ∀ i, i < t.args.length → ∀ m, (g (t.args.getD i noTm) m).length + 3 ≤ (t.args.getD i noTm).wgA := fun i hi => h _ (arg_size hi) (hw.arg hi)
 have ht := text_wgA way t.s
 unfold wrStep
 split
 ·rename_i hk
  have h6 := t.wgA_is
  rw [if_pos hk] at h6
  have h0 : 0 ≤ t.n := by
   have hm := hw.wf.may
   obtain ⟨k, n, s, l⟩ := t
   rw [Tm.may, Bool.and_eq_true] at hm
   have h1 := hm.1
   have hk : k = 1 := hk
   unfold mayP at h1
   rw [if_pos hk] at h1
   exact (of_decide_eq_true h1).1
  have h1 := itoa_four h0 (hw.var hk)
  rw [List.length_cons]; omega
 ·rename_i hk1
  split
  ·rename_i hk
   have h6 := t.wgA_is
   rw [if_neg hk1, if_pos hk] at h6
   omega
  ·rename_i hk2
   have h6 := t.wgA_name hk1 hk2
   split
   ·omega
   ·unfold compF
    split
    ·rename_i hc
     obtain ⟨i1, _, i3⟩ := consF_size t.size t
     obtain ⟨w1, w2⟩ := consF_wl t.size t hw
     have h1 := comma_wgA (g := g) (consF t.size t).1 (fun x hx => h x (i1 x hx) (w1 x hx))
     have h2 := h _ (i3 hc hp) w2 999
     have h3 := consF_wgA t.size t
     have h4 := consF_pos hc hp
     unfold listF tailF
     simp only [List.length_cons, List.length_append, List.length_nil]
     split
     ·simp only [List.length_nil]; omega
     ·simp only [List.length_cons]; omega
    ·split
     ·rename_i hb
      have h1 := hd 0 (by omega) 1200
      have h2 := wgA_one _ hb.2.2
      simp only [List.length_cons, List.length_append, List.length_nil]
      omega
     ·split
      ·have h1 := comma_wgA (g := g) t.args ha
       simp only [List.length_cons, List.length_append, List.length_nil]
       omega
      ·rename_i o ho
       have h1 := operate_wgA (g := g) ho hd
       split
       ·simp only [List.length_cons, List.length_append, List.length_nil]
        omega
       ·omega
end
theorem wr_wgA (es : List (OpK × OpV)) (way : Int) : ∀ (n : Nat) (t : Tm) (m : Int), t.size ≤ n → WlT t → (wrT es way t m).length + 3 ≤ t.wgA
 | 0, t, _, h, _ => by have := size_pos t; omega
 | n + 1, t, m, h, hw => by
  rw [wrT_step]
  exact step_wgA t m hw fun x hx hwx m => wr_wgA es way n x m (by omega) hwx
end Go.Proofs.YtcallkljcjimiaaGreatDoor
namespace Go.Proofs.YtcallkljcjimiaaGreatDoor
theorem wgAs_append : ∀ l r : List Tm, Tm.wgAs (l ++ r) = Tm.wgAs l + Tm.wgAs r
 | [], r => by simp [Tm.wgAs]
 | t :: l, r => by rw [List.cons_append, Tm.wgAs, Tm.wgAs, wgAs_append l r]; omega
theorem wgAs_one (t : Tm) : Tm.wgAs [t] = t.wgA := by simp [Tm.wgAs]
theorem wgA_comp (s : List UInt8) (l : List Tm) : (compT s l).wgA = 8 + 5 * s.length + Tm.wgAs l := rfl
theorem wgA_list : ∀ (l : List Tm) (t : Tm), (listT l t).wgA = Tm.wgAs l + 13 * l.length + t.wgA
 | [], t => by simp [listT, Tm.wgAs]
 | x :: l, t => by
  rw [show listT (x :: l) t = compT [46] [x, listT l t] from rfl, wgA_comp, Tm.wgAs, wgAs_one, wgA_list l t, Tm.wgAs, List.length_cons, List.length_cons, List.length_nil]
  omega
theorem wgA_int (n : Int) : (intT n).wgA = 3 + (Lib.itoa n).length := rfl
theorem itoa_byte (c : UInt8) : (Lib.itoa (c.toNat : Int)).length ≤ 3 := by
 rw [Lib.itoa_nonneg, Lib.decDigits_length]
 exact dec_len 2 _ (by have := c.toNat_lt; omega)
theorem wgAs_ints : ∀ s : List UInt8, Tm.wgAs (s.map fun c => intT c.toNat) ≤ 6 * s.length
 | [] => Nat.le_refl _
 | c :: s => by
  have h1 := wgAs_ints s
  have h2 := itoa_byte c
  rw [List.map_cons, Tm.wgAs, wgA_int, List.length_cons]
  omega
theorem itoa_neg (n : Int) : (Lib.itoa (negI n)).length ≤ (Lib.itoa n).length + 1 := by
 unfold negI
 split
 ·omega
 ·unfold Lib.itoa
  by_cases h : n < 0
  ·have h1 : ¬ -n < 0 := by omega
   have h2 : (-n).toNat = n.natAbs := by omega
   rw [if_neg h1, if_pos h, h2, List.length_cons]
   omega
  ·by_cases h0 : n = 0
   ·subst h0
    rw [if_neg (by omega)]
    exact Nat.le_add_right _ _
   ·have h1 : -n < 0 := by omega
    have h2 : (-n).natAbs = n.toNat := by omega
    rw [if_pos h1, if_neg h, h2, List.length_cons]
    omega
def allow (t : Tok) : Nat :=
 if t.kind = 3 then 3 + (Lib.itoa t.n).length else if t.kind = 4 then 8 else if t.kind = 5 then 19 * t.s.length + 18
 else if t.kind = 1 ∨ t.kind = 2 then 8 + 5 * t.s.length else if t.kind = 6 then 18 else 0
theorem allow_num {t : Tok} (h : t.kind = 3) : allow t = 3 + (Lib.itoa t.n).length := by unfold allow; rw [if_pos h]
theorem allow_var {t : Tok} (h : t.kind = 4) : allow t = 8 := by unfold allow; rw [if_neg (by omega), if_pos h]
theorem allow_codes {t : Tok} (h : t.kind = 5) : allow t = 19 * t.s.length + 18 := by unfold allow; rw [if_neg (by omega), if_neg (by omega), if_pos h]
theorem allow_name {t : Tok} (h : t.kind = 1 ∨ t.kind = 2) : allow t = 8 + 5 * t.s.length := by unfold allow; rw [if_neg (by omega), if_neg (by omega), if_neg (by omega), if_pos h]
theorem allow_punct {t : Tok} (h : t.kind = 6) : allow t = 18 := by unfold allow; rw [if_neg (by omega), if_neg (by omega), if_neg (by omega), if_neg (by omega), if_pos h]
def va (ts : List Tok) (n : Nat) : Nat := ((ts.take n).map allow).sum
theorem va_one {ts : List Tok} {n : Nat} (h : n < ts.length) : va ts (n + 1) = va ts n + allow (peekF ts n) := by
 unfold va peekF
 rw [List.take_succ_eq_append_getElem h, List.map_append, List.sum_append, List.getD_eq_getElem?_getD, List.getElem?_eq_getElem h]
 simp
theorem isP_is {ts : List Tok} {i : Nat} {c : UInt8} (h : isP ts i c = true) : (peekF ts i).kind = 6 ∧ (peekF ts i).s = [c] := by
 unfold isP at h
 simpa using h
theorem va_p {ts : List Tok} {i : Nat} {c : UInt8} (h : isP ts i c = true) : va ts (i + 1) = va ts i + 18 := by
 rw [va_one (isP_lt h), allow_punct (isP_is h).1]
def frW (f : WaitF) : Nat :=
 (if f.use = 2 ∨ f.use = 5 ∨ f.use = 6 then 8 + 5 * f.name.length else if f.use = 1 then 18 else if f.use = 3 then 13 * (f.l.length + 1) else if f.use = 4 then 13 * f.l.length else 0) + Tm.wgAs f.l
def potWA : List WaitF → Nat
 | [] => 0
 | f :: r => frW f + potWA r
def RdS.potA (s : RdS) : Nat := (if s.hv = true then s.t.wgA else 0) + potWA s.wait
theorem frW_comp {f : WaitF} (h : f.use = 2 ∨ f.use = 5 ∨ f.use = 6) : frW f = 8 + 5 * f.name.length + Tm.wgAs f.l := by unfold frW; rw [if_pos h]
theorem frW_brace {f : WaitF} (h : f.use = 1) : frW f = 18 + Tm.wgAs f.l := by unfold frW; rw [if_neg (by omega), if_pos h]
theorem frW_list {f : WaitF} (h : f.use = 3) : frW f = 13 * (f.l.length + 1) + Tm.wgAs f.l := by unfold frW; rw [if_neg (by omega), if_neg (by omega), if_pos h]
theorem frW_tail {f : WaitF} (h : f.use = 4) : frW f = 13 * f.l.length + Tm.wgAs f.l := by unfold frW; rw [if_neg (by omega), if_neg (by omega), if_neg (by omega), if_pos h]
def PaysA (ts : List Tok) (p a : Nat) (s' : RdS) : Prop := s'.potA + va ts a ≤ p + va ts s'.at'
section
variable {o : OpsF} {ts : List Tok} {s s' : RdS}
theorem potA_done (s : RdS) (t : Tm) (p : Int) : (s.done t p).potA = t.wgA + potWA s.wait := rfl
theorem potA_await (s : RdS) (f : WaitF) (m : Int) : (s.await f m).potA = 0 + (frW f + potWA s.wait) := rfl
theorem potA_again (s : RdS) (f : WaitF) (m : Int) : (s.again f m).potA = 0 + (frW f + potWA s.wait) := rfl
theorem expect_p {c : UInt8} (h : s.expect ts c = .ok s') : s' = s.go 1 ∧ isP ts s.at' c = true := by
 unfold RdS.expect at h
 split at h
 ·rename_i hp
  injection h with h
  exact ⟨h.symm, hp⟩
 ·cases h
theorem expect_mp {c : UInt8} {f : RdS → RdS} (h : (s.expect ts c).map f = .ok s') : s' = f (s.go 1) ∧ isP ts s.at' c = true := by
 cases he : s.expect ts c with
 | error a => rw [he] at h; cases h
 | ok x =>
  rw [he] at h
  obtain ⟨rfl, h2⟩ := expect_p he
  injection h with h
  exact ⟨h.symm, h2⟩
theorem args_p {n : List UInt8} (h : argsF ts s n = .ok s') : s' = (s.go 1).await ⟨2, 0, n, 0, []⟩ 999 ∧ isP ts s.at' 40 = true := by
 unfold argsF at h
 cases he : s.expect ts 40 with
 | error a => rw [he] at h; cases h
 | ok x =>
  rw [he] at h
  obtain ⟨rfl, h2⟩ := expect_p he
  injection h with h
  exact ⟨h.symm, h2⟩
theorem args_paysA {n : List UInt8} (h : argsF ts s n = .ok s') : PaysA ts (8 + 5 * n.length + potWA s.wait) s.at' s' := by
 obtain ⟨rfl, h2⟩ := args_p h
 unfold PaysA
 rw [potA_await, frW_comp (.inl rfl)]
 have := va_p h2
 show 0 + (8 + 5 * n.length + 0 + potWA s.wait) + _ ≤ _ + va ts (s.at' + 1)
 omega
theorem pair_paysA {c : UInt8} (h0 : (peekF ts s.at').kind = 6) (h00 : (peekF ts s.at').s.length = 1) (h1 : isP ts (s.at' + 1) c = true) (h : pairF ts s c = .ok s') : PaysA ts (potWA s.wait) s.at' s' := by
 have hl := isP_lt h1
 have e1 := va_one (ts := ts) (n := s.at') (by omega)
 rw [allow_punct h0] at e1
 have e2 := va_p h1
 unfold pairF at h
 dsimp only at h
 split at h
 ·have := args_paysA h
  unfold PaysA at this ⊢
  rw [go_wait, go_at, List.length_append, h00, List.length_cons, List.length_nil] at this
  rw [show s.at' + 1 + 1 = s.at' + 2 from rfl] at e2
  omega
 ·injection h with h
  subst h
  unfold PaysA
  rw [potA_done, go_wait]
  show _ ≤ _ + va ts (s.at' + 2)
  have e : (atomT ((peekF ts s.at').s ++ [c])).wgA = 8 + 5 * ((peekF ts s.at').s ++ [c]).length + 0 := rfl
  rw [e, List.length_append, h00, List.length_cons, List.length_nil]
  rw [show s.at' + 1 + 1 = s.at' + 2 from rfl] at e2
  omega
theorem punct_paysA (hk : (peekF ts s.at').kind = 6) (h : punctF ts s (peekF ts s.at').s = .ok s') : PaysA ts (potWA s.wait) s.at' s' := by
 have hl : s.at' < ts.length := peek_lt (by rw [hk]; decide)
 have e1 := va_one (ts := ts) (n := s.at') hl
 rw [allow_punct hk] at e1
 have aw : ∀ (f : WaitF) (m : Int), frW f ≤ 18 → PaysA ts (potWA s.wait) s.at' ((s.go 1).await f m) := fun f m hf => by
  unfold PaysA
  rw [potA_await, go_wait]
  show _ ≤ _ + va ts (s.at' + 1)
  omega
 unfold punctF at h
 split at h
 ·injection h with h
  subst h
  exact aw _ _ (by decide)
 ·split at h
  ·rename_i h91
   split at h
   ·rename_i hp
    exact pair_paysA hk (by rw [h91]; rfl) hp h
   ·injection h with h
    subst h
    exact aw _ _ (by decide)
  ·split at h
   ·rename_i h123
    split at h
    ·rename_i hp
     exact pair_paysA hk (by rw [h123]; rfl) hp h
    ·injection h with h
     subst h
     exact aw _ _ (by decide)
   ·cases h
theorem atom_paysA (hk : (peekF ts s.at').kind = 1 ∨ (peekF ts s.at').kind = 2) (h : atomF o ts s (peekF ts s.at') = .ok s') : PaysA ts (potWA s.wait) s.at' s' := by
 have hl : s.at' < ts.length := peek_lt (by rcases hk with hk | hk <;> rw [hk] <;> decide)
 have e1 := va_one (ts := ts) (n := s.at') hl
 rw [allow_name hk] at e1
 unfold atomF at h
 dsimp only at h
 split at h
 ·rename_i hc
  have h2 : s.at' + 1 < ts.length := peek_lt (by rw [hc.2.2.1]; decide)
  have e2 := va_one (ts := ts) (n := s.at' + 1) h2
  rw [allow_num hc.2.2.1] at e2
  injection h with h
  subst h
  unfold PaysA
  rw [potA_done, go_wait, wgA_int]
  show _ ≤ _ + va ts (s.at' + 2)
  have := itoa_neg (peekF ts (s.at' + 1)).n
  rw [show s.at' + 1 + 1 = s.at' + 2 from rfl] at e2
  omega
 ·split at h
  ·have := args_paysA h
   unfold PaysA at this ⊢
   rw [go_wait, go_at] at this
   omega
  ·split at h
   ·injection h with h
    subst h
    unfold PaysA
    rw [potA_await, go_wait, frW_comp (.inr (.inl rfl))]
    show 0 + (8 + 5 * (peekF ts s.at').s.length + 0 + potWA s.wait) + _ ≤ _ + va ts (s.at' + 1)
    omega
   ·injection h with h
    subst h
    unfold PaysA
    rw [potA_done, go_wait]
    show 8 + 5 * (peekF ts s.at').s.length + 0 + _ + _ ≤ _ + va ts (s.at' + 1)
    omega
theorem primary_paysA (h : primaryF o ts s = .ok s') : PaysA ts (potWA s.wait) s.at' s' := by
 unfold primaryF at h
 dsimp only at h
 split at h
 ·rename_i hk
  have h1 := va_one (show s.at' < ts.length from peek_lt (by rw [hk]; decide))
  rw [allow_num hk] at h1
  split at h
  ·cases h
  ·injection h with h
   subst h
   unfold PaysA
   rw [potA_done, go_wait, wgA_int]
   show _ ≤ _ + va ts (s.at' + 1)
   omega
 ·split at h
  ·rename_i hk
   have h1 := va_one (show s.at' < ts.length from peek_lt (by rw [hk]; decide))
   rw [allow_var hk] at h1
   injection h with h
   subst h
   obtain ⟨g1, g2, g3⟩ := var_at (s.go 1) (peekF ts s.at').s
   have e : (varF (s.go 1) (peekF ts s.at').s).t.wgA = 8 := by
    unfold varF
    split
    ·rfl
    ·dsimp only
     split <;> rfl
   unfold PaysA RdS.potA
   rw [g1, g2, g3, if_pos rfl, e, go_wait, go_at]
   omega
  ·split at h
   ·rename_i hk
    have h1 := va_one (show s.at' < ts.length from peek_lt (by rw [hk]; decide))
    rw [allow_codes hk] at h1
    injection h with h
    subst h
    unfold PaysA
    have hi := wgAs_ints (peekF ts s.at').s
    rw [potA_done, go_wait, wgA_list, List.length_map]
    show _ ≤ _ + va ts (s.at' + 1)
    have e : nilT.wgA = 18 := rfl
    rw [e]
    omega
   ·split at h
    ·rename_i hk
     exact punct_paysA hk h
    ·split at h
     ·rename_i hk
      exact atom_paysA hk h
     ·cases h
theorem operator_paysA (h : operatorF o ts s = some s') : PaysA ts (s.t.wgA + potWA s.wait) s.at' s' := by
 unfold operatorF at h
 dsimp only at h
 split at h
 ·cases h
 ·rename_i hk
  have hl : s.at' < ts.length ∧ 8 + 5 * (peekF ts s.at').s.length ≤ allow (peekF ts s.at') := by
   by_cases h1 : (peekF ts s.at').kind = 1
   ·exact ⟨peek_lt (by rw [h1]; decide), by rw [allow_name (.inl h1)]; exact Nat.le_refl _⟩
   ·by_cases h2 : (peekF ts s.at').kind = 2
    ·exact ⟨peek_lt (by rw [h2]; decide), by rw [allow_name (.inr h2)]; exact Nat.le_refl _⟩
    ·cases h3 : isP ts s.at' 44 with
     | true => exact ⟨isP_lt h3, by rw [allow_punct (isP_is h3).1, (isP_is h3).2, List.length_cons, List.length_nil]; omega⟩
     | false => exact absurd ⟨h1, h2, h3⟩ hk
  obtain ⟨hl, ha⟩ := hl
  have h1 := va_one (ts := ts) (n := s.at') hl
  split at h
  ·injection h with h
   subst h
   unfold PaysA
   rw [potA_await, go_wait, frW_comp (.inr (.inr rfl))]
   show 0 + (8 + 5 * (peekF ts s.at').s.length + Tm.wgAs [s.t] + potWA s.wait) + _ ≤ _ + va ts (s.at' + 1)
   rw [wgAs_one]
   omega
  ·split at h
   ·injection h with h
    subst h
    unfold PaysA
    rw [potA_done, go_wait, wgA_comp, wgAs_one]
    show _ ≤ _ + va ts (s.at' + 1)
    omega
   ·cases h
theorem backG_paysA {f : WaitF} (h : backG ts s f = .ok s') : PaysA ts (s.t.wgA + (frW f + potWA s.wait)) s.at' s' := by
 have ex : ∀ (c : UInt8) (g : RdS → RdS) (k : Nat), (s.expect ts c).map g = .ok s' → (∀ x, (g x).at' = x.at') → (g (s.go 1)).potA ≤ k → k ≤ s.t.wgA + (frW f + potWA s.wait) + 18 → PaysA ts (s.t.wgA + (frW f + potWA s.wait)) s.at' s' := fun c g k h1 h2 h3 h4 => by
  obtain ⟨rfl, h5⟩ := expect_mp h1
  have := va_p h5
  unfold PaysA
  rw [h2]
  show _ ≤ _ + va ts (s.at' + 1)
  omega
 have ag : ∀ (g : WaitF) (c : UInt8), isP ts s.at' c = true → frW g ≤ frW f + s.t.wgA + 18 → s' = (s.go 1).again g 999 → PaysA ts (s.t.wgA + (frW f + potWA s.wait)) s.at' s' := fun g c h1 h2 h3 => by
  subst h3
  have := va_p h1
  unfold PaysA
  rw [potA_again, go_wait]
  show _ ≤ _ + va ts (s.at' + 1)
  omega
 unfold backG at h
 split at h
 ·exact ex 41 _ (s.t.wgA + potWA s.wait) h (fun _ => rfl) (Nat.le_refl _) (by omega)
 ·split at h
  ·rename_i hu
   have := frW_brace hu
   exact ex 125 _ (18 + s.t.wgA + potWA s.wait) h (fun _ => rfl) (by rw [potA_done, wgA_comp, wgAs_one]; exact Nat.le_refl _) (by omega)
  ·split at h
   ·rename_i hu
    have hw := frW_comp (f := f) (.inr (.inl hu))
    injection h with h
    subst h
    unfold PaysA
    rw [potA_done, wgA_comp, wgAs_one]
    show _ ≤ _ + va ts s.at'
    omega
   ·split at h
    ·rename_i hu
     have hw := frW_comp (f := f) (.inr (.inr hu))
     injection h with h
     subst h
     unfold PaysA
     rw [potA_done, wgA_comp, wgAs_append, wgAs_one]
     show _ ≤ _ + va ts s.at'
     omega
    ·split at h
     ·rename_i hu
      have hw := frW_comp (f := f) (.inl hu)
      dsimp only at h
      split at h
      ·rename_i hp
       injection h with h
       refine ag _ 44 hp ?_ h.symm
       rw [frW_comp (f := ⟨f.use, f.most, f.name, f.pri, f.l ++ [s.t]⟩) (.inl hu), wgAs_append, wgAs_one]
       simp only
       omega
      ·exact ex 41 _ (8 + 5 * f.name.length + (Tm.wgAs f.l + s.t.wgA) + potWA s.wait) h (fun _ => rfl) (by rw [potA_done, wgA_comp, wgAs_append, wgAs_one]; exact Nat.le_refl _) (by omega)
     ·split at h
      ·rename_i hu
       have hw := frW_list hu
       dsimp only at h
       split at h
       ·rename_i hp
        injection h with h
        refine ag _ 44 hp ?_ h.symm
        rw [frW_list (f := ⟨f.use, f.most, f.name, f.pri, f.l ++ [s.t]⟩) hu, wgAs_append, wgAs_one, List.length_append, List.length_cons, List.length_nil]
        omega
       ·split at h
        ·rename_i hp
         injection h with h
         refine ag _ 124 hp ?_ h.symm
         rw [frW_tail rfl, wgAs_append, wgAs_one, List.length_append, List.length_cons, List.length_nil]
         omega
        ·exact ex 93 _ (Tm.wgAs f.l + s.t.wgA + 13 * (f.l.length + 1) + 18 + potWA s.wait) h (fun _ => rfl) (by rw [potA_done, wgA_list, wgAs_append, wgAs_one, List.length_append]; exact Nat.le_refl _) (by omega)
      ·split at h
       ·rename_i hu
        have hw := frW_tail hu
        exact ex 93 _ (Tm.wgAs f.l + 13 * f.l.length + s.t.wgA + potWA s.wait) h (fun _ => rfl) (by rw [potA_done, wgA_list]; exact Nat.le_refl _) (by omega)
       ·injection h with h
        subst h
        unfold PaysA RdS.potA
        split <;> omega
theorem round_paysA (h : roundF o ts s = .on s') : s'.potA + va ts s.at' ≤ s.potA + va ts s'.at' := by
 unfold roundF at h
 split at h
 ·rename_i hv
  cases hp : primaryF o ts s with
  | error a => rw [hp] at h; cases h
  | ok x =>
   rw [hp] at h
   injection h with h
   subst h
   have := primary_paysA hp
   unfold PaysA at this
   have hs : s.potA = 0 + potWA s.wait := by unfold RdS.potA; rw [if_neg (by rw [hv]; decide)]
   omega
 ·rename_i hv
  have hs : s.potA = s.t.wgA + potWA s.wait := by unfold RdS.potA; rw [if_pos (by simpa using hv)]
  split at h
  ·rename_i x hx
   injection h with h
   subst h
   have := operator_paysA hx
   unfold PaysA at this
   omega
  ·split at h
   ·rename_i f r hw
    cases hb : backF ts s f r with
    | error a => rw [hb] at h; cases h
    | ok x =>
     rw [hb] at h
     injection h with h
     subst h
     have := backG_paysA (s := { s with wait := r, most := f.most }) hb
     unfold PaysA at this
     rw [hw] at hs
     simp only [potWA] at hs
     simp only at this
     omega
   ·split at h
    ·cases h
    ·cases h
end
theorem finA_of {o : OpsF} {ts : List Tok} {s s1 : RdS} (h : roundF o ts s = .fin s1) : s1 = s ∧ s.hv = true := by
 unfold roundF at h
 split at h
 ·cases hp : primaryF o ts s <;> rw [hp] at h <;> cases h
 ·rename_i hv
  split at h
  ·cases h
  ·split at h
   ·rename_i f r hw
    cases hb : backF ts s f r <;> rw [hb] at h <;> cases h
   ·split at h
    ·cases h
    ·injection h with h
     exact ⟨h.symm, by simpa using hv⟩
theorem end_paysA (o : OpsF) (ts : List Tok) : ∀ (n : Nat) (s sf : RdS), leftF ts s ≤ n → endF o ts s = .fin sf → sf.potA + va ts s.at' ≤ s.potA + va ts sf.at' ∧ sf.hv = true := by
 intro n
 induction n with
 | zero =>
  intro s sf hn he
  rw [end_step] at he
  cases hr : roundF o ts s with
  | on s1 => have := round_less hr; omega
  | bad a => rw [hr] at he; cases he
  | fin s1 =>
   rw [hr] at he
   have hx : s1 = sf := by injection he
   subst hx
   obtain ⟨rfl, h2⟩ := finA_of hr
   exact ⟨Nat.le_refl _, h2⟩
 | succ n ih =>
  intro s sf hn he
  rw [end_step] at he
  cases hr : roundF o ts s with
  | on s1 =>
   rw [hr] at he
   simp only at he
   have h1 := round_less hr
   have h2 := round_paysA hr
   obtain ⟨h3, h4⟩ := ih s1 sf (by omega) he
   exact ⟨by omega, h4⟩
  | bad a => rw [hr] at he; cases he
  | fin s1 =>
   rw [hr] at he
   have hx : s1 = sf := by injection he
   subst hx
   obtain ⟨rfl, h2⟩ := finA_of hr
   exact ⟨Nat.le_refl _, h2⟩
theorem sumA_le : ∀ (l : List Nat) (k : Nat), (l.take k).sum ≤ l.sum
 | [], k => by simp
 | x :: l, 0 => by simp
 | x :: l, k + 1 => by
  have := sumA_le l k
  simp only [List.take_succ_cons, List.sum_cons]
  omega
def allows (ts : List Tok) : Nat := (ts.map allow).sum
theorem va_all (ts : List Tok) (n : Nat) : va ts n ≤ allows ts := by
 unfold va allows
 rw [List.map_take]
 exact sumA_le _ _
theorem read_wgA {o : OpsF} {ts : List Tok} {i : Nat} {sf : RdS} (h : endF o ts (startF i) = .fin sf) : sf.t.wgA ≤ allows ts := by
 obtain ⟨h1, h2⟩ := end_paysA o ts _ (startF i) sf (Nat.le_refl _) h
 have h3 := va_all ts sf.at'
 have h4 : (startF i).potA = 0 := rfl
 have h5 : sf.potA = sf.t.wgA + potWA sf.wait := by unfold RdS.potA; rw [if_pos h2]
 omega
end Go.Proofs.YtcallkljcjimiaaGreatDoor
namespace Go.Proofs.YtcallkljcjimiaaGreatDoor
def Ends (l : List UInt8) : Prop := l.getLast? = some 10
theorem Ends.ne {l : List UInt8} (h : Ends l) : l ≠ [] := by rintro rfl; cases h
theorem Ends.tail {c : UInt8} {r : List UInt8} (h : Ends (c :: r)) (hr : r ≠ []) : Ends r := by
 unfold Ends at *
 rwa [List.getLast?_cons_of_ne_nil hr] at h
theorem Ends.drop {l : List UInt8} (h : Ends l) : ∀ (k : Nat), k < l.length → Ends (l.drop k) := by
 intro k
 induction k generalizing l with
 | zero => intro _; simpa using h
 | succ k ih =>
  intro hk
  cases l with
  | nil => simp at hk
  | cons c r =>
   rw [List.drop_succ_cons]
   simp only [List.length_cons] at hk
   exact ih (h.tail (by rintro rfl; simp at hk)) (by omega)
theorem Ends.one {c : UInt8} (h : Ends [c]) : c = 10 := by simpa [Ends] using h
theorem Ends.app {l b : List UInt8} (h : Ends b) : Ends (l ++ b) := by
 unfold Ends at *
 rw [List.getLast?_append, h]
 rfl
end Go.Proofs.YtcallkljcjimiaaGreatDoor
