import Derived.Test.YtcallkljcjimiaaGreatDoorJW09
import Derived.Lib.ItoaNum
import Derived.Test.YtcallkljcjimiaaGreatDoorProg
import Derived.LoopTactic
import Derived.BigQuiet
import Derived.Deep.QuietTactic
namespace Go.Proofs.YtcallkljcjimiaaGreatDoor
mutual
def Tm.fits : Tm → Bool | .mk _ n _ l => decide (-9223372036854775808 ≤ n ∧ n ≤ 9223372036854775807) && Tm.fitss l
def Tm.fitss : List Tm → Bool | [] => true | t :: r => t.fits && Tm.fitss r
end
structure WfT (t : Tm) : Prop where
 may : t.may = true
 fits : t.fits = true
theorem fitss_mem : ∀ (l : List Tm), Tm.fitss l = true → ∀ x ∈ l, x.fits = true
 | a :: l, h, x, hx => by
  rw [Tm.fitss, Bool.and_eq_true] at h
  rcases List.mem_cons.1 hx with rfl | hx
  ·exact h.1
  ·exact fitss_mem l h.2 x hx
theorem WfT.n {t : Tm} (h : WfT t) : -9223372036854775808 ≤ t.n ∧ t.n ≤ 9223372036854775807 := by
 obtain ⟨k, n, s, l⟩ := t
 have := h.fits
 rw [Tm.fits, Bool.and_eq_true, decide_eq_true_eq] at this
 exact this.1
theorem WfT.mem {t x : Tm} (h : WfT t) (hx : x ∈ t.args) : WfT x := by
 refine ⟨(may_parts h.may).2 x hx, ?_⟩
 obtain ⟨k, n, s, l⟩ := t
 have := h.fits
 rw [Tm.fits, Bool.and_eq_true] at this
 exact fitss_mem l this.2 x hx
theorem WfT.arg {t : Tm} (h : WfT t) {i : Nat} (hi : i < t.args.length) : WfT (t.args.getD i noTm) := h.mem (by rw [List.getD_eq_getElem?_getD, List.getElem?_eq_getElem hi]; exact List.getElem_mem hi)
theorem WfT.kind {t : Tm} (h : WfT t) : t.k = 1 ∨ t.k = 2 ∨ t.k = 3 ∨ t.k = 4 := (may_parts h.may).1
theorem WfT.name {t : Tm} (h : WfT t) : t.s.length ≤ 1000 ∧ t.args.length ≤ 255 := by
 obtain ⟨k, n, s, l⟩ := t
 have h1 := h.may
 rw [Tm.may, Bool.and_eq_true] at h1
 have h1 := h1.1
 show s.length ≤ 1000 ∧ l.length ≤ 255
 unfold mayP at h1
 split at h1
 ·have := of_decide_eq_true h1
  obtain ⟨_, rfl, h3⟩ := this
  exact ⟨Nat.zero_le _, by omega⟩
 ·split at h1
  ·have := of_decide_eq_true h1
   obtain ⟨rfl, h3⟩ := this
   exact ⟨Nat.zero_le _, by omega⟩
  ·split at h1
   ·have := of_decide_eq_true h1
    omega
   ·split at h1
    ·have := of_decide_eq_true h1
     omega
    ·cases h1
theorem consF_wf : ∀ (f : Nat) (t : Tm), WfT t → (∀ x ∈ (consF f t).1, WfT x) ∧ WfT (consF f t).2
 | 0, t, h => ⟨fun x hx => (by cases hx), h⟩
 | f + 1, t, h => by
  unfold consF
  by_cases hc : consT t = true
  ·rw [if_pos hc]
   obtain ⟨_, _, h3⟩ := consT_len hc
   obtain ⟨i1, i2⟩ := consF_wf f (t.args.getD 1 noTm) (h.arg (by omega))
   refine ⟨fun x hx => ?_, i2⟩
   rcases List.mem_cons.1 hx with rfl | hx
   ·exact h.arg (by omega)
   ·exact i1 x hx
  ·rw [if_neg hc]
   exact ⟨fun x hx => (by cases hx), h⟩
theorem two_sizes {t : Tm} (h : t.args.length = 2) : t.size = 1 + (t.args.getD 0 noTm).size + (t.args.getD 1 noTm).size := by
 obtain ⟨k, n, s, l⟩ := t
 have h : l.length = 2 := h
 match l, h with
 | [a, b], _ =>
  show 1 + (a.size + (b.size + 0)) = 1 + a.size + b.size
  omega
theorem consF_sum : ∀ (f : Nat) (t : Tm), Tm.sizes (consF f t).1 + (consF f t).1.length + (consF f t).2.size ≤ t.size
 | 0, t => by show 0 + 0 + t.size ≤ _; omega
 | f + 1, t => by
  unfold consF
  by_cases hc : consT t = true
  ·rw [if_pos hc]
   obtain ⟨_, _, h3⟩ := consT_len hc
   have h1 := consF_sum f (t.args.getD 1 noTm)
   have h2 := two_sizes h3
   simp only [Tm.sizes, List.length_cons]
   omega
  ·rw [if_neg hc]
   show 0 + 0 + t.size ≤ _
   omega
theorem consF_pos {f : Nat} {t : Tm} (h : consT t = true) (hf : 0 < f) : 0 < (consF f t).1.length := by
 obtain ⟨f, rfl⟩ : ∃ k, f = k + 1 := ⟨f - 1, by omega⟩
 unfold consF
 rw [if_pos h]
 exact Nat.succ_pos _
theorem dec_len : ∀ (k v : Nat), v < 10 ^ (k + 1) → Lib.nDigits v ≤ k + 1
 | 0, v, hv => by rw [Lib.nDigits_small (by omega)]; omega
 | k + 1, v, hv => by
  by_cases hs : v < 10
  ·rw [Lib.nDigits_small hs]; omega
  ·rw [Lib.nDigits_big hs]
   have := dec_len k (v / 10) (by rw [Nat.pow_succ] at hv; omega)
   omega
theorem itoa_le {n : Int} (h : -9223372036854775808 ≤ n ∧ n ≤ 9223372036854775807) : (Lib.itoa n).length ≤ 30 := by
 have hd : ∀ u : Nat, u ≤ 9223372036854775808 → (Lib.decDigits u).length ≤ 21 := fun u hu => by
  rw [Lib.decDigits_length]
  exact dec_len 20 u (by omega)
 unfold Lib.itoa
 split
 ·have := hd n.natAbs (by omega)
  rw [List.length_cons]
  omega
 ·have := hd n.toNat (by omega)
  omega
theorem text_len (way : Int) {s : List UInt8} (h : s.length ≤ 1000) : (textF way s).length ≤ 5002 := by
 have h5 : ∀ c : UInt8, (escB c).length ≤ 5 := fun c => by
  unfold escB hexOf
  (repeat' split) <;> simp
 have hf : ∀ l : List UInt8, (l.flatMap escB).length ≤ 5 * l.length := fun l => by
  induction l with
  | nil => simp
  | cons c r ih =>
   rw [List.flatMap_cons, List.length_append, List.length_cons]
   have := h5 c
   omega
 unfold textF
 split
 ·omega
 ·unfold putB quoteB
  split
  ·omega
  ·have := hf s
   simp only [List.length_append, List.length_cons, List.length_nil]
   omega
section
variable {es : List (OpK × OpV)} {way : Int} {g : Tm → Int → List UInt8}
theorem comma_len : ∀ (l : List Tm), (∀ t ∈ l, ∀ m, (g t m).length ≤ 6000 * t.size) → (commaF g l).length ≤ 6000 * Tm.sizes l + l.length
 | [], _ => Nat.zero_le _
 | [t], h => by
  have := h t (by simp) 999
  simp only [commaF, Tm.sizes, List.length_cons, List.length_nil]
  omega
 | t :: u :: r, h => by
  have ih := comma_len (u :: r) (fun x hx => h x (List.mem_cons_of_mem _ hx))
  have h1 := h t (by simp) 999
  simp only [commaF, Tm.sizes, List.length_cons, List.length_append] at ih ⊢
  omega
theorem operand_len (t : Tm) (h : ∀ m, (g t m).length ≤ 6000 * t.size) (o : OpR) (same : Bool) : (operandF es way g t o same).length ≤ 6000 * t.size + 2 := by
 have h1 := h 1200
 unfold operandF
 split
 ·simp only [List.length_cons, List.length_append, List.length_nil]
  omega
 ·omega
theorem one_sizes {t : Tm} (h : t.args.length = 1) : t.size = 1 + (t.args.getD 0 noTm).size := by
 obtain ⟨k, n, s, l⟩ := t
 have h : l.length = 1 := h
 match l, h with
 | [a], _ =>
  show 1 + (a.size + 0) = 1 + a.size
  omega
theorem operate_len {t : Tm} {o : OpR} (hw : WfT t) (ho : operF es way t = some o) (h : ∀ i, i < t.args.length → ∀ m, (g (t.args.getD i noTm) m).length ≤ 6000 * (t.args.getD i noTm).size) : (operateF es way g o t.args).length + 900 ≤ 6000 * t.size := by
 obtain ⟨o1, o2, o3⟩ := oper_name ho
 have ht := text_len way (s := o.name) (by rw [o1]; exact hw.name.1)
 unfold operateF
 rcases o3 with ⟨hs, hl⟩ | ⟨hs, hl⟩
 ·have h0 := operand_len (es := es) (way := way) (t.args.getD 0 noTm) (h 0 (by omega)) o false
  have h2 := one_sizes hl
  rcases hs with hs | hs
  ·rw [if_pos hs]
   simp only [List.length_append, List.length_cons]
   omega
  ·have n1 : ¬ o.side = 1 := by omega
   rw [if_neg n1, if_pos hs]
   simp only [List.length_append, List.length_cons]
   omega
 ·have n1 : ¬ o.side = 1 := by omega
  have n3 : ¬ o.side = 3 := by omega
  have h0 := operand_len (es := es) (way := way) (t.args.getD 0 noTm) (h 0 (by omega)) o o.left
  have h1 := operand_len (es := es) (way := way) (t.args.getD 1 noTm) (h 1 (by omega)) o o.right
  have h2 := two_sizes hl
  rw [if_neg n1, if_neg n3]
  split
  ·simp only [List.length_append, List.length_cons, List.length_nil]
   omega
  ·simp only [List.length_append, List.length_cons, List.length_nil]
   omega
theorem step_len (t : Tm) (most : Int) (hw : WfT t) (h : ∀ x : Tm, x.size < t.size → WfT x → ∀ m, (g x m).length ≤ 6000 * x.size) : (wrStep es way g t most).length ≤ 6000 * t.size := by
 have hp := size_pos t
 have hn := itoa_le hw.n
 have ha : ∀ x ∈ t.args, ∀ m, (g x m).length ≤ 6000 * x.size := fun x hx => h x (by have h1 := mem_sizes t.args x hx; have h2 := size_args t; omega) (hw.mem hx)
 have hd : ∀ i, i < t.args.length → ∀ m, (g (t.args.getD i noTm) m).length ≤ 6000 * (t.args.getD i noTm).size := fun i hi => h _ (arg_size hi) (hw.arg hi)
 have ht := text_len way hw.name.1
 have hl := hw.name.2
 have hsz := size_args t
 unfold wrStep
 split
 ·rw [List.length_cons]; omega
 ·split
  ·omega
  ·split
   ·omega
   ·unfold compF
    split
    ·rename_i hc
     obtain ⟨i1, _, i3⟩ := consF_size t.size t
     obtain ⟨w1, w2⟩ := consF_wf t.size t hw
     have h1 := comma_len (g := g) (consF t.size t).1 (fun x hx => h x (i1 x hx) (w1 x hx))
     have h2 := h _ (i3 hc hp) w2 999
     have h3 := consF_sum t.size t
     have h4 := consF_pos hc hp
     unfold listF tailF
     simp only [List.length_cons, List.length_append, List.length_nil]
     split
     ·simp only [List.length_nil]; omega
     ·simp only [List.length_cons]; omega
    ·split
     ·rename_i hb
      have h1 := hd 0 (by omega) 1200
      have h2 := one_sizes hb.2.2
      simp only [List.length_cons, List.length_append, List.length_nil]
      omega
     ·split
      ·have h1 := comma_len (g := g) t.args ha
       simp only [List.length_cons, List.length_append, List.length_nil]
       omega
      ·rename_i o ho
       have h1 := operate_len (g := g) hw ho hd
       split
       ·simp only [List.length_cons, List.length_append, List.length_nil]
        omega
       ·omega
end
theorem wr_len (es : List (OpK × OpV)) (way : Int) : ∀ (n : Nat) (t : Tm) (m : Int), t.size ≤ n → WfT t → (wrT es way t m).length ≤ 6000 * t.size
 | 0, t, _, h, _ => by have := size_pos t; omega
 | n + 1, t, m, h, hw => by
  rw [wrT_step]
  exact step_len t m hw fun x hx hwx m => wr_len es way n x m (by omega) hwx
end Go.Proofs.YtcallkljcjimiaaGreatDoor
namespace Go.Proofs.YtcallkljcjimiaaGreatDoor
open Go.RowKit
set_option maxRecDepth 100000
theorem ret_i {k : IntKind} {a b : Int} (h : a = b) : Ending.returned (.int k a) = .returned (.int k b) := by rw [h]
theorem ret_b {a b : Bool} (h : a = b) : Ending.returned (.bool a) = .returned (.bool b) := by rw [h]
set_option maxHeartbeats 2000000 in
theorem sort_lit0 (w : World) (c : Int) (h : c = 33 ∨ c = 34 ∨ c = 35 ∨ c = 36 ∨ c = 37 ∨ c = 38 ∨ c = 39 ∨ c = 40 ∨ c = 41 ∨ c = 42 ∨ c = 43) :
    Calls Tryz.prog 60 #[.int .u8 c] w fun e w' => e = .returned (.int .i64 (bsortI c)) ∧ w = w' := by
 rcases h with rfl | rfl | rfl | rfl | rfl | rfl | rfl | rfl | rfl | rfl | rfl
 all_goals
  go_enter Tryz.func60, Tryz.ntmps60
  go_wp2_with fail
  go_ret
  exact ⟨ret_i (by decide), rfl⟩
set_option maxHeartbeats 2000000 in
theorem sort_lit1 (w : World) (c : Int) (h : c = 44 ∨ c = 45 ∨ c = 46 ∨ c = 47 ∨ c = 58 ∨ c = 59 ∨ c = 60 ∨ c = 61 ∨ c = 62 ∨ c = 63 ∨ c = 64) :
    Calls Tryz.prog 60 #[.int .u8 c] w fun e w' => e = .returned (.int .i64 (bsortI c)) ∧ w = w' := by
 rcases h with rfl | rfl | rfl | rfl | rfl | rfl | rfl | rfl | rfl | rfl | rfl
 all_goals
  go_enter Tryz.func60, Tryz.ntmps60
  go_wp2_with fail
  go_ret
  exact ⟨ret_i (by decide), rfl⟩
set_option maxHeartbeats 2000000 in
theorem sort_lit2 (w : World) (c : Int) (h : c = 91 ∨ c = 92 ∨ c = 93 ∨ c = 94 ∨ c = 95 ∨ c = 96 ∨ c = 123 ∨ c = 124 ∨ c = 125 ∨ c = 126 ∨ c = 32) :
    Calls Tryz.prog 60 #[.int .u8 c] w fun e w' => e = .returned (.int .i64 (bsortI c)) ∧ w = w' := by
 rcases h with rfl | rfl | rfl | rfl | rfl | rfl | rfl | rfl | rfl | rfl | rfl
 all_goals
  go_enter Tryz.func60, Tryz.ntmps60
  go_wp2_with fail
  go_ret
  exact ⟨ret_i (by decide), rfl⟩
set_option maxHeartbeats 2000000 in
theorem sort_iv0 (w : World) (c : Int) (h0 : 0 ≤ c) (h1 : c ≤ 8) :
    Calls Tryz.prog 60 #[.int .u8 c] w fun e w' => e = .returned (.int .i64 (bsortI c)) ∧ w = w' := by
 go_enter Tryz.func60, Tryz.ntmps60
 go_wp2_with fail
 go_ret
 exact ⟨ret_i (by unfold bsortI; (repeat' split) <;> omega), rfl⟩
set_option maxHeartbeats 2000000 in
theorem sort_iv1 (w : World) (c : Int) (h0 : 9 ≤ c) (h1 : c ≤ 13) :
    Calls Tryz.prog 60 #[.int .u8 c] w fun e w' => e = .returned (.int .i64 (bsortI c)) ∧ w = w' := by
 go_enter Tryz.func60, Tryz.ntmps60
 go_wp2_with fail
 go_ret
 exact ⟨ret_i (by unfold bsortI; (repeat' split) <;> omega), rfl⟩
set_option maxHeartbeats 2000000 in
theorem sort_iv2 (w : World) (c : Int) (h0 : 14 ≤ c) (h1 : c ≤ 31) :
    Calls Tryz.prog 60 #[.int .u8 c] w fun e w' => e = .returned (.int .i64 (bsortI c)) ∧ w = w' := by
 go_enter Tryz.func60, Tryz.ntmps60
 go_wp2_with fail
 go_ret
 exact ⟨ret_i (by unfold bsortI; (repeat' split) <;> omega), rfl⟩
set_option maxHeartbeats 2000000 in
theorem sort_iv3 (w : World) (c : Int) (h0 : 48 ≤ c) (h1 : c ≤ 57) :
    Calls Tryz.prog 60 #[.int .u8 c] w fun e w' => e = .returned (.int .i64 (bsortI c)) ∧ w = w' := by
 go_enter Tryz.func60, Tryz.ntmps60
 go_wp2_with fail
 go_ret
 exact ⟨ret_i (by unfold bsortI; (repeat' split) <;> omega), rfl⟩
set_option maxHeartbeats 2000000 in
theorem sort_iv4 (w : World) (c : Int) (h0 : 65 ≤ c) (h1 : c ≤ 90) :
    Calls Tryz.prog 60 #[.int .u8 c] w fun e w' => e = .returned (.int .i64 (bsortI c)) ∧ w = w' := by
 go_enter Tryz.func60, Tryz.ntmps60
 go_wp2_with fail
 go_ret
 exact ⟨ret_i (by unfold bsortI; (repeat' split) <;> omega), rfl⟩
set_option maxHeartbeats 2000000 in
theorem sort_iv5 (w : World) (c : Int) (h0 : 97 ≤ c) (h1 : c ≤ 122) :
    Calls Tryz.prog 60 #[.int .u8 c] w fun e w' => e = .returned (.int .i64 (bsortI c)) ∧ w = w' := by
 go_enter Tryz.func60, Tryz.ntmps60
 go_wp2_with fail
 go_ret
 exact ⟨ret_i (by unfold bsortI; (repeat' split) <;> omega), rfl⟩
set_option maxHeartbeats 2000000 in
theorem sort_iv6 (w : World) (c : Int) (h0 : 127 ≤ c) (h1 : c ≤ 255) :
    Calls Tryz.prog 60 #[.int .u8 c] w fun e w' => e = .returned (.int .i64 (bsortI c)) ∧ w = w' := by
 go_enter Tryz.func60, Tryz.ntmps60
 go_wp2_with fail
 go_ret
 exact ⟨ret_i (by unfold bsortI; (repeat' split) <;> omega), rfl⟩
theorem sort_any (w : World) (c : Int) (h0 : 0 ≤ c) (h1 : c ≤ 255) :
    Calls Tryz.prog 60 #[.int .u8 c] w fun e w' => e = .returned (.int .i64 (bsortI c)) ∧ w = w' := by
 by_cases i0 : 0 ≤ c ∧ c ≤ 8
 ·exact sort_iv0 w c i0.1 i0.2
 by_cases i1 : 9 ≤ c ∧ c ≤ 13
 ·exact sort_iv1 w c i1.1 i1.2
 by_cases i2 : 14 ≤ c ∧ c ≤ 31
 ·exact sort_iv2 w c i2.1 i2.2
 by_cases i3 : 48 ≤ c ∧ c ≤ 57
 ·exact sort_iv3 w c i3.1 i3.2
 by_cases i4 : 65 ≤ c ∧ c ≤ 90
 ·exact sort_iv4 w c i4.1 i4.2
 by_cases i5 : 97 ≤ c ∧ c ≤ 122
 ·exact sort_iv5 w c i5.1 i5.2
 by_cases i6 : 127 ≤ c ∧ c ≤ 255
 ·exact sort_iv6 w c i6.1 i6.2
 by_cases g0 : c = 33 ∨ c = 34 ∨ c = 35 ∨ c = 36 ∨ c = 37 ∨ c = 38 ∨ c = 39 ∨ c = 40 ∨ c = 41 ∨ c = 42 ∨ c = 43
 ·exact sort_lit0 w c g0
 by_cases g1 : c = 44 ∨ c = 45 ∨ c = 46 ∨ c = 47 ∨ c = 58 ∨ c = 59 ∨ c = 60 ∨ c = 61 ∨ c = 62 ∨ c = 63 ∨ c = 64
 ·exact sort_lit1 w c g1
 exact sort_lit2 w c (by omega)
theorem sort_byte (w : World) (c : UInt8) : Calls Tryz.prog 60 #[.int .u8 (c.toNat : Int)] w fun e w' => e = .returned (.int .i64 (bsort c)) ∧ w = w' :=
 sort_any w c.toNat (by omega) (by have := c.toNat_lt; omega)
theorem bsortI_bd (c : Int) : 0 ≤ bsortI c ∧ bsortI c ≤ 8 := by unfold bsortI; (repeat' split) <;> omega
theorem bsort_bd (c : UInt8) : 0 ≤ bsort c ∧ bsort c ≤ 8 := bsortI_bd _
theorem hexVal_bd (c : UInt8) : hexVal c ≤ 16 := by
 unfold hexVal
 have := c.toNat_lt
 split
 ·omega
 ·split
  ·omega
  ·split <;> omega
set_option maxHeartbeats 1000000 in
theorem value_any (w : World) (c : UInt8) : Calls Tryz.prog 155 #[.int .u8 (c.toNat : Int)] w fun e w' => e = .returned (.int .i64 (hexVal c : Int)) ∧ w = w' := by
 have hc := c.toNat_lt
 unfold hexVal
 generalize c.toNat = n at *
 have hn : (n : Int) < 256 := by omega
 by_cases h1 : 48 ≤ n ∧ n ≤ 57
 ·rw [if_pos h1]
  have a1 : 48 ≤ (n : Int) := by omega
  have a2 : (n : Int) ≤ 57 := by omega
  have H := Lib.hid h1
  clear h1
  go_enter Tryz.func155, Tryz.ntmps155
  go_wp2_with fail
  go_ret
  exact ⟨ret_i (by omega), rfl⟩
 rw [if_neg h1]
 by_cases h2 : 97 ≤ n ∧ n ≤ 102
 ·rw [if_pos h2]
  have a1 : 97 ≤ (n : Int) := by omega
  have a2 : (n : Int) ≤ 102 := by omega
  have H := Lib.hid h2
  clear h1 h2
  go_enter Tryz.func155, Tryz.ntmps155
  go_wp2_with fail
  go_ret
  exact ⟨ret_i (by omega), rfl⟩
 rw [if_neg h2]
 by_cases h3 : 65 ≤ n ∧ n ≤ 70
 ·rw [if_pos h3]
  have a1 : 65 ≤ (n : Int) := by omega
  have a2 : (n : Int) ≤ 70 := by omega
  have H := Lib.hid h3
  clear h1 h2 h3
  go_enter Tryz.func155, Tryz.ntmps155
  go_wp2_with fail
  go_ret
  exact ⟨ret_i (by omega), rfl⟩
 rw [if_neg h3]
 have H1 := Lib.hid h1
 have H2 := Lib.hid h2
 have H3 := Lib.hid h3
 clear h1 h2 h3
 rcases (show (n : Int) < 48 ∨ (58 ≤ (n : Int) ∧ (n : Int) < 65) ∨ (71 ≤ (n : Int) ∧ (n : Int) < 97) ∨ 103 ≤ (n : Int) by have := H1.out; have := H2.out; have := H3.out; omega) with h | ⟨h, h'⟩ | ⟨h, h'⟩ | h
 all_goals
  go_enter Tryz.func155, Tryz.ntmps155
  go_wp2_with fail
  go_ret
  exact ⟨rfl, rfl⟩
theorem byte_ne {c d : UInt8} (h : c ≠ d) : ((c.toNat : Int) == (d.toNat : Int)) = false := by
 rw [beq_eq_false_iff_ne]
 intro e
 exact h (UInt8.toNat_inj.1 (by omega))
theorem byte_at (l : List UInt8) (k : Nat) (h : k < l.length) : ∃ c, l.drop k = c :: l.drop (k + 1) ∧ (⟨l.toArray⟩ : ByteArray)[k]'(by show k < l.toArray.size; simpa using h) = c ∧ l[k]? = some c :=
 ⟨l[k], List.drop_eq_getElem_cons h, rfl, List.getElem?_eq_getElem h⟩
set_option maxHeartbeats 2000000 in
theorem coded_lit (w : World) (l : List UInt8) (base : Int) (hb : base = 8 ∨ base = 16) (hl : (l.length : Int) ≤ 9223372036854775000) :
    Calls Tryz.prog 141 #[.string ⟨l.toArray⟩, .int .i64 base] w fun e w' =>
     e = .returned (.tuple #[.int .i64 ((codedF base.toNat l 0 0).1 : Int), .int .i64 ((codedF base.toNat l 0 0).2.1 : Int), .bool (codedF base.toNat l 0 0).2.2]) ∧ w = w' := by
 rcases hb with rfl | rfl
 all_goals
  generalize hB : codedF _ l 0 0 = R
  have HB := Lib.hid hB
  clear hB
  go_enter Tryz.func141, Tryz.ntmps141
  go_wp2_with fail
  go_loop [7, 4] (fun i n => ∃ k v : Nat, k ≤ l.length ∧ v ≤ 255 ∧ i = .int .i64 k ∧ n = .int .i64 v ∧ Hid (codedF _ (l.drop k) v k = R)) (fun i _ => l.length - (intOf i).toNat)
  case atStart => exact ⟨0, 0, Nat.zero_le _, by omega, rfl, rfl, HB⟩
  case round =>
   obtain ⟨k, v, hk, hv, rfl, rfl, hR⟩ := hrel
   by_cases hlt : k < l.length
   ·obtain ⟨c, hd, hx, -⟩ := byte_at l k hlt
    have HD := Lib.hid hd
    have hxv := hexVal_bd c
    clear hd
    by_cases h92 : c = 92
    ·subst h92
     go_wp2_with fail
     go_ret3
     have := hR.out
     rw [HD.out] at this
     rw [← this]
     simp [codedF]
    ·have t := byte_ne h92
     have t' : ((c.toNat : Int) == 92) = false := t
     have HN := Lib.hid h92
     clear t h92
     go_wp2_with fail
     refine (value_any _ c).mono ?_
     rintro e w' ⟨rfl, rfl⟩
     have hu := hR.out
     rw [HD.out, codedF, if_neg HN.out] at hu
     have HU := Lib.hid hu
     clear HB hu hR
     go_wp2_with fail
     ·have hu := HU.out
      simp only [Int.reduceToNat] at hu
      rw [if_pos (by omega)] at hu
      go_ret3
      rw [← hu]
      exact ⟨rfl, rfl⟩
     ·have hu := HU.out
      simp only [Int.reduceToNat] at hu
      rw [if_neg (by omega), if_pos (by omega)] at hu
      go_ret3
      rw [← hu]
      exact ⟨rfl, rfl⟩
     ·have hu := HU.out
      simp only [Int.reduceToNat] at hu
      rw [if_neg (by omega), if_neg (by omega)] at hu
      go_round
      case rel => exact ⟨k + 1, _, hlt, by omega, by go_num, by first | rfl | go_num, Lib.hid hu⟩
      case measure => simp [intOf]; omega
   ·have hkn : k = l.length := by omega
    go_wp2_with fail
    go_ret3
    have := hR.out
    rw [hkn, List.drop_length] at this
    rw [← this]
    exact ⟨rfl, rfl⟩
theorem codedF_le' (base : Nat) : ∀ (l : List UInt8) (n i : Nat), (codedF base l n i).2.1 ≤ i + l.length
 | [], n, i => Nat.zero_le _
 | c :: r, n, i => by
  unfold codedF
  rw [List.length_cons]
  split
  ·simp only; omega
  ·split
   ·exact Nat.zero_le _
   ·split
    ·exact Nat.zero_le _
    ·have := codedF_le' base r (n * base + hexVal c) (i + 1)
     omega
theorem codedF_le (base : Nat) (l : List UInt8) : (codedF base l 0 0).2.1 ≤ l.length := by
 have := codedF_le' base l 0 0
 omega
end Go.Proofs.YtcallkljcjimiaaGreatDoor
