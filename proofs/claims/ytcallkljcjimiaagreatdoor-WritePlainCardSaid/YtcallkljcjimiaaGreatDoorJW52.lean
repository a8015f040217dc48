import Derived.Test.YtcallkljcjimiaaGreatDoorJW38
namespace Go.Proofs.YtcallkljcjimiaaGreatDoor
theorem escB_pos (c : UInt8) : 1 ≤ (escB c).length := by
 unfold escB
 repeat' split
 all_goals simp
theorem flat_len : ∀ s : List UInt8, s.length ≤ (s.flatMap escB).length
 | [] => Nat.le_refl _
 | c :: s => by
  have h1 := flat_len s
  have h2 := escB_pos c
  rw [List.flatMap_cons, List.length_append, List.length_cons]
  omega
theorem putB_len (s : List UInt8) : s.length ≤ (putB s).length := by
 unfold putB
 split
 ·exact Nat.le_refl _
 ·have := flat_len s
  unfold quoteB
  simp only [List.length_append, List.length_cons, List.length_nil]
  omega
mutual
def plainT : Tm → Bool | .mk k _ s l => !((decide (k = 3) || decide (k = 4)) && !plainB s) && plainL l
def plainL : List Tm → Bool | [] => true | t :: r => plainT t && plainL r
end
theorem plainL_mem : ∀ (l : List Tm), plainL l = true → ∀ t ∈ l, plainT t = true
 | x :: l, h, t, ht => by
  rw [plainL, Bool.and_eq_true] at h
  rcases List.mem_cons.1 ht with rfl | ht
  ·exact h.1
  ·exact plainL_mem l h.2 t ht
theorem plainT_parts {t : Tm} (h : plainT t = true) : (t.k = 3 ∨ t.k = 4 → plainB t.s = true) ∧ ∀ x ∈ t.args, plainT x = true := by
 obtain ⟨k, n, s, l⟩ := t
 rw [plainT, Bool.and_eq_true] at h
 refine ⟨fun hk => ?_, plainL_mem l h.2⟩
 have h1 := h.1
 show plainB s = true
 rcases hk with hk | hk
 ·have hk : k = 3 := hk
  subst hk
  simpa using h1
 ·have hk : k = 4 := hk
  subst hk
  simpa using h1
theorem oper_same (es : List (OpK × OpV)) (t : Tm) : operF es 0 t = operF es 1 t := by
 unfold operF
 by_cases h : t.k ≠ 4 ∨ consT t = true
 ·rw [if_pos (.inr h), if_pos (.inr h)]
 ·have n0 : ¬ ((0 : Int) = 2 ∨ t.k ≠ 4 ∨ consT t = true) := fun e => e.elim (by decide) h
  have n1 : ¬ ((1 : Int) = 2 ∨ t.k ≠ 4 ∨ consT t = true) := fun e => e.elim (by decide) h
  rw [if_neg n0, if_neg n1]
theorem within_same (es : List (OpK × OpV)) (t : Tm) (o : OpR) (same : Bool) : withinF es 0 t o same = withinF es 1 t o same := by
 unfold withinF
 rw [oper_same]
section
variable {es : List (OpK × OpV)} {g0 g1 : Tm → Int → List UInt8}
theorem text_le (s : List UInt8) : (textF 0 s).length ≤ (textF 1 s).length := by
 unfold textF
 rw [if_pos rfl, if_neg (by decide)]
 exact putB_len s
theorem comma_le : ∀ (l : List Tm), (∀ t ∈ l, ∀ m, (g0 t m).length ≤ (g1 t m).length) → (commaF g0 l).length ≤ (commaF g1 l).length
 | [], _ => Nat.le_refl _
 | [t], h => h t (by simp) 999
 | t :: u :: r, h => by
  have ih := comma_le (u :: r) (fun x hx => h x (List.mem_cons_of_mem _ hx))
  have h1 := h t (by simp) 999
  simp only [commaF, List.length_append, List.length_cons] at ih ⊢
  omega
theorem operand_le (t : Tm) (h : ∀ m, (g0 t m).length ≤ (g1 t m).length) (o : OpR) (same : Bool) : (operandF es 0 g0 t o same).length ≤ (operandF es 1 g1 t o same).length := by
 have h1 := h 1200
 unfold operandF
 rw [within_same]
 split
 ·simp only [List.length_cons, List.length_append]
  omega
 ·exact h1
theorem operate_le (o : OpR) (l : List Tm) (h : ∀ i m, (g0 (l.getD i noTm) m).length ≤ (g1 (l.getD i noTm) m).length) : (operateF es 0 g0 o l).length ≤ (operateF es 1 g1 o l).length := by
 have ht := text_le o.name
 have h0 := fun o s => operand_le (es := es) (l.getD 0 noTm) (h 0) o s
 have h1 := fun o s => operand_le (es := es) (l.getD 1 noTm) (h 1) o s
 unfold operateF
 split
 ·have := h0 o false
  simp only [List.length_append, List.length_cons]
  omega
 ·split
  ·have := h0 o false
   simp only [List.length_append, List.length_cons]
   omega
  ·have a := h0 o o.left
   have b := h1 o o.right
   split
   ·simp only [List.length_append, List.length_cons, List.length_nil]
    omega
   ·simp only [List.length_append, List.length_cons, List.length_nil]
    omega
theorem noTm_step (es : List (OpK × OpV)) (way : Int) (m : Int) : wrT es way noTm m = textF way [] ++ [40, 41] := by
 rw [wrT_step]
 unfold wrStep compF operF consT noTm
 simp [Tm.k, Tm.s, Tm.args, commaF]
theorem step_le (t : Tm) (most : Int) (hno : ∀ m, (g0 noTm m).length ≤ (g1 noTm m).length) (h : ∀ x : Tm, x.size < t.size → ∀ m, (g0 x m).length ≤ (g1 x m).length) : (wrStep es 0 g0 t most).length ≤ (wrStep es 1 g1 t most).length := by
 have ha : ∀ x ∈ t.args, ∀ m, (g0 x m).length ≤ (g1 x m).length := fun x hx => h x (by have h1 := mem_sizes t.args x hx; have h2 := size_args t; omega)
 have hd : ∀ i m, (g0 (t.args.getD i noTm) m).length ≤ (g1 (t.args.getD i noTm) m).length := fun i m => by
  rcases Nat.lt_or_ge i t.args.length with h1 | h1
  ·exact h _ (arg_size h1) m
  ·rw [List.getD_eq_getElem?_getD, List.getElem?_eq_none h1]
   exact hno m
 have ho : ∀ o, (operateF es 0 g0 o t.args).length ≤ (operateF es 1 g1 o t.args).length := fun o => operate_le o t.args hd
 have ht := text_le t.s
 unfold wrStep
 split
 ·exact Nat.le_refl _
 ·split
  ·exact Nat.le_refl _
  ·split
   ·exact ht
   ·unfold compF
    split
    ·rename_i hc
     obtain ⟨i1, _, i3⟩ := consF_size t.size t
     have h1 := comma_le (g0 := g0) (g1 := g1) _ (fun x hx => h x (i1 x hx))
     have h2 := h _ (i3 hc (size_pos t)) 999
     unfold listF tailF
     simp only [List.length_cons, List.length_append]
     split
     ·omega
     ·simp only [List.length_cons]
      omega
    ·have e1 : ((0 : Int) ≠ 2 ∧ t.s = [123, 125] ∧ t.args.length = 1) ↔ ((1 : Int) ≠ 2 ∧ t.s = [123, 125] ∧ t.args.length = 1) := by simp
     by_cases hb : (1 : Int) ≠ 2 ∧ t.s = [123, 125] ∧ t.args.length = 1
     ·rw [if_pos hb, if_pos (e1.2 hb)]
      have := hd 0 1200
      simp only [List.length_cons, List.length_append]
      omega
     ·rw [if_neg hb, if_neg (fun e => hb (e1.1 e)), oper_same]
      cases operF es 1 t with
      | none =>
       have := comma_le (g0 := g0) (g1 := g1) t.args ha
       simp only [List.length_cons, List.length_append]
       omega
      | some o =>
       simp only
       have := ho o
       split
       ·simp only [List.length_cons, List.length_append]
        omega
       ·exact this
end
theorem bare_le (es : List (OpK × OpV)) : ∀ (n : Nat) (t : Tm) (m : Int), t.size ≤ n → (wrT es 0 t m).length ≤ (wrT es 1 t m).length
 | 0, t, _, h => by have := size_pos t; omega
 | n + 1, t, m, h => by
  rw [wrT_step es 0, wrT_step es 1]
  exact step_le t m (fun m => by rw [noTm_step, noTm_step]; have := text_le []; simp only [List.length_append]; omega) fun x hx m => bare_le es n x m (by omega)
theorem text_same {s : List UInt8} (h : plainB s = true) : textF 0 s = textF 1 s := by
 unfold textF
 rw [if_pos rfl, if_neg (by decide)]
 unfold putB
 rw [if_pos h]
section
variable {es : List (OpK × OpV)} {g0 g1 : Tm → Int → List UInt8}
theorem step_same (t : Tm) (most : Int) (hm : t.may = true) (hp : plainT t = true) (h : ∀ x : Tm, x.size < t.size → x.may = true → plainT x = true → ∀ m, g0 x m = g1 x m) : wrStep es 0 g0 t most = wrStep es 1 g1 t most := by
 obtain ⟨p1, p2⟩ := plainT_parts hp
 obtain ⟨hk, hma⟩ := may_parts hm
 have ha : ∀ x ∈ t.args, ∀ m, g0 x m = g1 x m := fun x hx => h x (by have h1 := mem_sizes t.args x hx; have h2 := size_args t; omega) (hma x hx) (p2 x hx)
 have hd : ∀ i, i < t.args.length → ∀ m, g0 (t.args.getD i noTm) m = g1 (t.args.getD i noTm) m := fun i hi m => ha _ (by rw [List.getD_eq_getElem?_getD, List.getElem?_eq_getElem hi]; exact List.getElem_mem hi) m
 have hop : ∀ i, i < t.args.length → ∀ o same, operandF es 0 g0 (t.args.getD i noTm) o same = operandF es 1 g1 (t.args.getD i noTm) o same := fun i hi o same => by
  unfold operandF
  rw [within_same, hd i hi]
 unfold wrStep
 split
 ·rfl
 ·split
  ·rfl
  ·split
   ·rename_i hk
    exact text_same (p1 (.inl hk))
   ·have h4 : t.k = 4 := by omega
    unfold compF
    split
    ·rename_i hc
     obtain ⟨c1, c2, _⟩ := consT_len hc
     have := p1 (.inr c1)
     rw [c2] at this
     cases this
    ·have e1 : ((0 : Int) ≠ 2 ∧ t.s = [123, 125] ∧ t.args.length = 1) ↔ ((1 : Int) ≠ 2 ∧ t.s = [123, 125] ∧ t.args.length = 1) := by simp
     by_cases hb : (1 : Int) ≠ 2 ∧ t.s = [123, 125] ∧ t.args.length = 1
     ·rw [if_pos hb, if_pos (e1.2 hb), hd 0 (by omega)]
     ·rw [if_neg hb, if_neg (fun e => hb (e1.1 e)), oper_same]
      cases ho : operF es 1 t with
      | none =>
       simp only
       rw [commaF_congr _ ha, text_same (p1 (.inr h4))]
      | some o =>
       simp only
       obtain ⟨o1, o2, o3⟩ := oper_name ho
       have hn : textF 0 o.name = textF 1 o.name := by rw [o1]; exact text_same (p1 (.inr o2))
       have he : operateF es 0 g0 o t.args = operateF es 1 g1 o t.args := by
        unfold operateF
        rw [hn]
        rcases o3 with ⟨hs, hl⟩ | ⟨hs, hl⟩
        ·rcases hs with hs | hs
         ·rw [if_pos hs, if_pos hs, hop 0 (by omega)]
         ·have n1 : ¬ o.side = 1 := by omega
          rw [if_neg n1, if_pos hs, if_neg n1, if_pos hs, hop 0 (by omega)]
        ·have n1 : ¬ o.side = 1 := by omega
         have n3 : ¬ o.side = 3 := by omega
         rw [if_neg n1, if_neg n3, if_neg n1, if_neg n3, hop 0 (by omega), hop 1 (by omega)]
       rw [he]
end
theorem bare_same (es : List (OpK × OpV)) : ∀ (n : Nat) (t : Tm) (m : Int), t.size ≤ n → t.may = true → plainT t = true → wrT es 0 t m = wrT es 1 t m
 | 0, t, _, h, _, _ => by have := size_pos t; omega
 | n + 1, t, m, h, hm, hp => by
  rw [wrT_step es 0, wrT_step es 1]
  exact step_same t m hm hp fun x hx h1 h2 m => bare_same es n x m (by omega) h1 h2
end Go.Proofs.YtcallkljcjimiaaGreatDoor
namespace Go.Proofs.YtcallkljcjimiaaGreatDoor
open Go.RowKit Go.Maps
set_option maxRecDepth 100000
theorem briefs_mem {m : Nat} : ∀ (l : List Tm), Tm.briefs m l = true → ∀ x ∈ l, x.brief m = true
 | a :: l, h, x, hx => by
  rw [Tm.briefs, Bool.and_eq_true] at h
  rcases List.mem_cons.1 hx with rfl | hx
  ·exact h.1
  ·exact briefs_mem l h.2 x hx
theorem brief_parts {m : Nat} {t : Tm} (h : t.brief m = true) : t.s.length ≤ m ∧ ∀ x ∈ t.args, x.brief m = true := by
 obtain ⟨k, n, s, l⟩ := t
 rw [Tm.brief, Bool.and_eq_true, decide_eq_true_eq] at h
 exact ⟨h.1, briefs_mem l h.2⟩
def plainHead (t : Tm) : Bool := !((decide (t.k = 3) || decide (t.k = 4)) && !plainB t.s)
theorem plainT_eq (t : Tm) : plainT t = (plainHead t && plainL t.args) := by
 obtain ⟨k, n, s, l⟩ := t
 rw [plainT]
 rfl
theorem plainL_snoc : ∀ (l : List Tm) (t : Tm), plainL (l ++ [t]) = (plainL l && plainT t)
 | [], t => by simp [plainL]
 | a :: r, t => by rw [List.cons_append, plainL, plainL_snoc r t, plainL, Bool.and_assoc]
theorem plainL_no : ∀ (l : List Tm) (t : Tm), t ∈ l → plainT t = false → plainL l = false
 | a :: l, t, h, hf => by
  rw [plainL]
  rcases List.mem_cons.1 h with rfl | h
  ·rw [hf]; rfl
  ·rw [plainL_no l t h hf, Bool.and_false]
def plF (bc : Nat) : Value := .func (.func 11) #[] #[.pointer (some ⟨bc, 0, none⟩)]
def PlC (bc n : Nat) : Prop := ∀ (t : Tm) (u : World) (x : TV), t.size ≤ n → t.brief 1000 = true → t.size ≤ 1000000000 → TermAt u u.heap.size x t → u.cell? ⟨bc, 0, none⟩ = some (plF bc) →
 Calls Tryz.prog 11 #[tvV x, .pointer (some ⟨bc, 0, none⟩)] u fun e u' => e = .returned (.bool (plainT t)) ∧ Below u.heap.size u u'
set_option maxHeartbeats 16000000 in
theorem pl_step {bc n : Nat} (hC : PlC bc n) : PlC bc (n + 1) := by
 intro t u x hn hbr hsz hx hcell
 obtain ⟨k1, k2, k3, k4, k5, -⟩ := hx.open
 obtain ⟨q1, q2⟩ := brief_parts hbr
 have hsa := size_args t
 have hsl := sizes_len t.args
 obtain ⟨R, hR⟩ : ∃ R, R = plainT t := ⟨_, rfl⟩
 rw [← hR]
 have hR2 : R = (!((decide (x.k = 3) || decide (x.k = 4)) && !plainB x.s) && plainL t.args) := by rw [hR, plainT_eq]; unfold plainHead; rw [k1, k3]
 obtain ⟨W, hW⟩ : ∃ W, W = u.alloc (.cells #[.int .i64 x.k, .int .i64 x.n, .string ⟨x.s.toArray⟩, .slice x.A x.len x.cap] 28) := ⟨_, rfl⟩
 obtain ⟨bx, hbx⟩ : ∃ b, b = u.heap.size := ⟨_, rfl⟩
 have hbW : Below u.heap.size u W := by rw [hW]; exact (Below.refl _ _).alloc (Nat.le_refl _) _
 have hx0 : W.heap[bx]? = some (.cells #[.int .i64 x.k, .int .i64 x.n, .string ⟨x.s.toArray⟩, .slice x.A x.len x.cap] 28 (0, 0)) := by rw [hW, hbx]; exact heap_alloc_new _ _
 obtain ⟨P, hP⟩ : ∃ P, P = plainB x.s := ⟨_, rfl⟩
 have HPL : Hid (∀ v, Calls Tryz.prog 12 #[.string ⟨x.s.toArray⟩] v fun e v' => e = .returned (.bool P) ∧ Below v.heap.size v v') := Lib.hid fun v => by
  rw [hP]
  exact plain_any v x.s (by rw [← k3]; omega)
 have HR : Hid (R = (!((decide (x.k = 3) || decide (x.k = 4)) && !P) && plainL t.args)) := Lib.hid (by rw [hP]; exact hR2)
 have HC := Lib.hid hC
 have HX := Lib.hid (hx.blw hbW)
 have HB := Lib.hid (And.intro hbW hbx)
 have HX0 := Lib.hid hx0
 have HCELL : Hid (W.cell? ⟨bc, 0, none⟩ = some (plF bc)) := Lib.hid ((hbW.cell (p := ⟨bc, 0, none⟩) (World.block_lt_of_cell? u _ hcell)).trans hcell)
 have HSZ := Lib.hid (And.intro hn (And.intro hsz (And.intro q2 (And.intro hsa (And.intro hsl k4)))))
 have HP := Lib.hid hP
 obtain ⟨f0, f1, f2, f3, -⟩ := four_at hx0
 clear hC hn hbr hsz hx hcell k1 k2 k3 k4 k5 q1 q2 hsa hsl hR hR2 hbW hx0 hP
 rw [tvV_lit]
 by_cases hk3 : x.k = 3
 ·have b1 : (x.k == 3) = true := by rw [hk3]; rfl
  have hk := hk3
  have HR3 : Hid (R = (P && plainL t.args)) := Lib.hid (by rw [HR.out]; rw [hk3]; cases P <;> rfl)
  clear hk hk3
  go_enter Tryz.func11, Tryz.ntmps11
  go_upto_region 1 with fail
  rw [← hW, ← hbx]
  clear hW hbx
  go_wp2_with fail
  refine (HPL.out W).mono ?_
  rintro e V ⟨rfl, hbv⟩
  have HWV := Lib.hid hbv
  clear hbv
  cases P with
  | false =>
   have HRR : Hid (R = false) := Lib.hid (by rw [HR3.out]; rfl)
   have HF := Lib.hid (HB.out.1.trans (HWV.out.mono HB.out.1.size))
   go_wp2_with fail
   go_ret
   exact ⟨by rw [HRR.out]; rfl, HF.out⟩
  | true =>
   have HRH : Hid (R = plainL t.args) := Lib.hid (by rw [HR3.out]; rfl)
   have HVB : Hid (Below u.heap.size u V) := Lib.hid (HB.out.1.trans (HWV.out.mono HB.out.1.size))
   have HCV : Hid (V.cell? ⟨bc, 0, none⟩ = some (plF bc)) := Lib.hid ((HWV.out.cell (p := ⟨bc, 0, none⟩) (World.block_lt_of_cell? W _ HCELL.out)).trans HCELL.out)
   have hxv := (HWV.out.block bx (Array.getElem?_eq_some_iff.1 HX0.out).1).trans HX0.out
   clear f0 f1 f2 f3
   obtain ⟨f0, f1, f2, f3, -⟩ := four_at hxv
   have HXV := Lib.hid hxv
   clear hxv
   go_wp2_with fail
   clear f0 f1 f2 f3
   go_loopw [23] (fun i wr => ∃ k : Nat, k ≤ x.len ∧ i = .int .i64 k ∧ Hid (Below V.heap.size V wr ∧ plainL (t.args.take k) = true)) (fun i _ => x.len - (intOf i).toNat)
   case atStart => exact ⟨0, Nat.zero_le _, rfl, Lib.hid ⟨Below.refl _ _, by simp [plainL]⟩⟩
   case round =>
    obtain ⟨k, hk, rfl, HI⟩ := hrel
    by_cases hkl : k < x.len
    case neg =>
     have b9 : decide ((k : Int) < (x.len : Int)) = false := by simp; omega
     have hRR : R = true := by
      have hke : k = x.len := by omega
      have h1 := HI.out.2
      rw [hke, ← HSZ.out.2.2.2.2.2, List.take_length] at h1
      rw [HRH.out, h1]
     have HRR := Lib.hid hRR
     have HF := Lib.hid (HVB.out.trans (HI.out.1.mono HVB.out.size))
     clear hRR
     go_wp2_with fail
     go_ret
     exact ⟨by rw [HRR.out]; rfl, HF.out⟩
    have b9 : decide ((k : Int) < (x.len : Int)) = true := by simp; omega
    have hk0 : (0 : Int) ≤ (k : Int) := by omega
    have hk1 : (k : Int) < (x.len : Int) := by omega
    have hka : k < t.args.length := by rw [HSZ.out.2.2.2.2.2]; exact hkl
    have hbu : Below u.heap.size u wr := HVB.out.trans (HI.out.1.mono HVB.out.size)
    obtain ⟨b, off, y, hA, hbB, hy, m0, m1, m2, m3⟩ := arg_in (HX.out.blw ((HWV.out.mono HB.out.1.size).trans (HI.out.1.mono (Nat.le_trans HB.out.1.size HWV.out.size)))) hka
    have hbw : b < wr.heap.size := by have := hbu.size; omega
    have hcw : wr.cell? ⟨bc, 0, none⟩ = some (.func (.func 11) #[] #[.pointer (some ⟨bc, 0, none⟩)]) := (HI.out.1.cell (p := ⟨bc, 0, none⟩) (World.block_lt_of_cell? V _ HCV.out)).trans HCV.out
    obtain ⟨V1, hV1⟩ : ∃ V1, V1 = wr.alloc (.cells #[.int .i64 y.k, .int .i64 y.n, .string ⟨y.s.toArray⟩, .slice y.A y.len y.cap] 28) := ⟨_, rfl⟩
    obtain ⟨b6, hb6⟩ : ∃ b6, b6 = wr.heap.size := ⟨_, rfl⟩
    have hbV1 : Below wr.heap.size wr V1 := by rw [hV1]; exact (Below.refl _ _).alloc (Nat.le_refl _) _
    have hy0 : V1.heap[b6]? = some (.cells #[.int .i64 y.k, .int .i64 y.n, .string ⟨y.s.toArray⟩, .slice y.A y.len y.cap] 28 (0, 0)) := by rw [hV1, hb6]; exact heap_alloc_new _ _
    have hc1 : V1.cell? ⟨bc, 0, none⟩ = some (.func (.func 11) #[] #[.pointer (some ⟨bc, 0, none⟩)]) := (hbV1.cell (p := ⟨bc, 0, none⟩) (World.block_lt_of_cell? wr _ hcw)).trans hcw
    have hcl := HC.out (t.args.getD k noTm) V1 y (by have := arg_lt hka; have := HSZ.out.1; omega) (HSZ.out.2.2.1 _ (by rw [List.getD_eq_getElem?_getD, List.getElem?_eq_getElem hka]; exact List.getElem_mem hka)) (by have := arg_lt hka; have := HSZ.out.2.1; omega) (((hy.up (by have := hbu.size; omega)).blw (B := wr.heap.size) hbV1).up hbV1.size) hc1
    obtain ⟨Q, hQ⟩ : ∃ Q, Q = plainT (t.args.getD k noTm) := ⟨_, rfl⟩
    rw [← hQ, tvV_lit] at hcl
    have HCL := Lib.hid hcl
    have HQ := Lib.hid hQ
    have hw2 : IntKind.i64.wrap ((k : Int) + 1) = (k : Int) + 1 := IntWalk.i64_in _ (by have := HSZ.out; omega)
    have HB1 := Lib.hid (And.intro hbV1 (And.intro hbu hka))
    have HY0 := Lib.hid hy0
    have HC1 := Lib.hid hc1
    rw [hA] at *
    clear hcl hQ hbV1 hbu hy0 hc1 hA hbB hy hka hcw
    go_upto_region 6 with fail
    rw [← hV1, ← hb6]
    clear hV1 hb6 m0 m1 m2 m3 hbw
    obtain ⟨y0, y1, y2, y3, -⟩ := four_at HY0.out
    have hc1 := HC1.out
    go_wp2_with fail
    refine HCL.out.mono ?_
    rintro e V2 ⟨rfl, hb2⟩
    have HB2 := Lib.hid ((HB1.out.1).trans (hb2.mono HB1.out.1.size))
    clear hb2 y0 y1 y2 y3 hc1
    cases Q with
    | true =>
     have HNX : Hid (Below V.heap.size V V2 ∧ plainL (t.args.take (k + 1)) = true) := Lib.hid ⟨HI.out.1.trans (HB2.out.mono HI.out.1.size), by rw [take_getD HB1.out.2.2, plainL_snoc, HI.out.2, ← HQ.out]; rfl⟩
     go_wp2_with fail
     go_roundw
     case rel => exact ⟨k + 1, by omega, rfl, HNX⟩
     all_goals (simp [intOf]; omega)
    | false =>
     have hRR : R = false := by
      rw [HRH.out]
      exact plainL_no _ _ (by rw [List.getD_eq_getElem?_getD, List.getElem?_eq_getElem HB1.out.2.2]; exact List.getElem_mem HB1.out.2.2) HQ.out.symm
     have HRR := Lib.hid hRR
     have HF := Lib.hid (HB1.out.2.1.trans (HB2.out.mono HB1.out.2.1.size))
     clear hRR
     go_wp2_with fail
     go_ret
     exact ⟨by rw [HRR.out]; rfl, HF.out⟩
 have b1 : (x.k == 3) = false := beq_eq_false_iff_ne.2 hk3
 by_cases hk4 : x.k = 4
 ·have b2 : (x.k == 4) = true := by rw [hk4]; rfl
  have hk := hk4
  have HR3 : Hid (R = (P && plainL t.args)) := Lib.hid (by rw [HR.out]; rw [hk4]; cases P <;> rfl)
  clear hk hk4 hk3
  go_enter Tryz.func11, Tryz.ntmps11
  go_upto_region 1 with fail
  rw [← hW, ← hbx]
  clear hW hbx
  go_wp2_with fail
  refine (HPL.out W).mono ?_
  rintro e V ⟨rfl, hbv⟩
  have HWV := Lib.hid hbv
  clear hbv
  cases P with
  | false =>
   have HRR : Hid (R = false) := Lib.hid (by rw [HR3.out]; rfl)
   have HF := Lib.hid (HB.out.1.trans (HWV.out.mono HB.out.1.size))
   go_wp2_with fail
   go_ret
   exact ⟨by rw [HRR.out]; rfl, HF.out⟩
  | true =>
   have HRH : Hid (R = plainL t.args) := Lib.hid (by rw [HR3.out]; rfl)
   have HVB : Hid (Below u.heap.size u V) := Lib.hid (HB.out.1.trans (HWV.out.mono HB.out.1.size))
   have HCV : Hid (V.cell? ⟨bc, 0, none⟩ = some (plF bc)) := Lib.hid ((HWV.out.cell (p := ⟨bc, 0, none⟩) (World.block_lt_of_cell? W _ HCELL.out)).trans HCELL.out)
   have hxv := (HWV.out.block bx (Array.getElem?_eq_some_iff.1 HX0.out).1).trans HX0.out
   clear f0 f1 f2 f3
   obtain ⟨f0, f1, f2, f3, -⟩ := four_at hxv
   have HXV := Lib.hid hxv
   clear hxv
   go_wp2_with fail
   clear f0 f1 f2 f3
   go_loopw [23] (fun i wr => ∃ k : Nat, k ≤ x.len ∧ i = .int .i64 k ∧ Hid (Below V.heap.size V wr ∧ plainL (t.args.take k) = true)) (fun i _ => x.len - (intOf i).toNat)
   case atStart => exact ⟨0, Nat.zero_le _, rfl, Lib.hid ⟨Below.refl _ _, by simp [plainL]⟩⟩
   case round =>
    obtain ⟨k, hk, rfl, HI⟩ := hrel
    by_cases hkl : k < x.len
    case neg =>
     have b9 : decide ((k : Int) < (x.len : Int)) = false := by simp; omega
     have hRR : R = true := by
      have hke : k = x.len := by omega
      have h1 := HI.out.2
      rw [hke, ← HSZ.out.2.2.2.2.2, List.take_length] at h1
      rw [HRH.out, h1]
     have HRR := Lib.hid hRR
     have HF := Lib.hid (HVB.out.trans (HI.out.1.mono HVB.out.size))
     clear hRR
     go_wp2_with fail
     go_ret
     exact ⟨by rw [HRR.out]; rfl, HF.out⟩
    have b9 : decide ((k : Int) < (x.len : Int)) = true := by simp; omega
    have hk0 : (0 : Int) ≤ (k : Int) := by omega
    have hk1 : (k : Int) < (x.len : Int) := by omega
    have hka : k < t.args.length := by rw [HSZ.out.2.2.2.2.2]; exact hkl
    have hbu : Below u.heap.size u wr := HVB.out.trans (HI.out.1.mono HVB.out.size)
    obtain ⟨b, off, y, hA, hbB, hy, m0, m1, m2, m3⟩ := arg_in (HX.out.blw ((HWV.out.mono HB.out.1.size).trans (HI.out.1.mono (Nat.le_trans HB.out.1.size HWV.out.size)))) hka
    have hbw : b < wr.heap.size := by have := hbu.size; omega
    have hcw : wr.cell? ⟨bc, 0, none⟩ = some (.func (.func 11) #[] #[.pointer (some ⟨bc, 0, none⟩)]) := (HI.out.1.cell (p := ⟨bc, 0, none⟩) (World.block_lt_of_cell? V _ HCV.out)).trans HCV.out
    obtain ⟨V1, hV1⟩ : ∃ V1, V1 = wr.alloc (.cells #[.int .i64 y.k, .int .i64 y.n, .string ⟨y.s.toArray⟩, .slice y.A y.len y.cap] 28) := ⟨_, rfl⟩
    obtain ⟨b6, hb6⟩ : ∃ b6, b6 = wr.heap.size := ⟨_, rfl⟩
    have hbV1 : Below wr.heap.size wr V1 := by rw [hV1]; exact (Below.refl _ _).alloc (Nat.le_refl _) _
    have hy0 : V1.heap[b6]? = some (.cells #[.int .i64 y.k, .int .i64 y.n, .string ⟨y.s.toArray⟩, .slice y.A y.len y.cap] 28 (0, 0)) := by rw [hV1, hb6]; exact heap_alloc_new _ _
    have hc1 : V1.cell? ⟨bc, 0, none⟩ = some (.func (.func 11) #[] #[.pointer (some ⟨bc, 0, none⟩)]) := (hbV1.cell (p := ⟨bc, 0, none⟩) (World.block_lt_of_cell? wr _ hcw)).trans hcw
    have hcl := HC.out (t.args.getD k noTm) V1 y (by have := arg_lt hka; have := HSZ.out.1; omega) (HSZ.out.2.2.1 _ (by rw [List.getD_eq_getElem?_getD, List.getElem?_eq_getElem hka]; exact List.getElem_mem hka)) (by have := arg_lt hka; have := HSZ.out.2.1; omega) (((hy.up (by have := hbu.size; omega)).blw (B := wr.heap.size) hbV1).up hbV1.size) hc1
    obtain ⟨Q, hQ⟩ : ∃ Q, Q = plainT (t.args.getD k noTm) := ⟨_, rfl⟩
    rw [← hQ, tvV_lit] at hcl
    have HCL := Lib.hid hcl
    have HQ := Lib.hid hQ
    have hw2 : IntKind.i64.wrap ((k : Int) + 1) = (k : Int) + 1 := IntWalk.i64_in _ (by have := HSZ.out; omega)
    have HB1 := Lib.hid (And.intro hbV1 (And.intro hbu hka))
    have HY0 := Lib.hid hy0
    have HC1 := Lib.hid hc1
    rw [hA] at *
    clear hcl hQ hbV1 hbu hy0 hc1 hA hbB hy hka hcw
    go_upto_region 6 with fail
    rw [← hV1, ← hb6]
    clear hV1 hb6 m0 m1 m2 m3 hbw
    obtain ⟨y0, y1, y2, y3, -⟩ := four_at HY0.out
    have hc1 := HC1.out
    go_wp2_with fail
    refine HCL.out.mono ?_
    rintro e V2 ⟨rfl, hb2⟩
    have HB2 := Lib.hid ((HB1.out.1).trans (hb2.mono HB1.out.1.size))
    clear hb2 y0 y1 y2 y3 hc1
    cases Q with
    | true =>
     have HNX : Hid (Below V.heap.size V V2 ∧ plainL (t.args.take (k + 1)) = true) := Lib.hid ⟨HI.out.1.trans (HB2.out.mono HI.out.1.size), by rw [take_getD HB1.out.2.2, plainL_snoc, HI.out.2, ← HQ.out]; rfl⟩
     go_wp2_with fail
     go_roundw
     case rel => exact ⟨k + 1, by omega, rfl, HNX⟩
     all_goals (simp [intOf]; omega)
    | false =>
     have hRR : R = false := by
      rw [HRH.out]
      exact plainL_no _ _ (by rw [List.getD_eq_getElem?_getD, List.getElem?_eq_getElem HB1.out.2.2]; exact List.getElem_mem HB1.out.2.2) HQ.out.symm
     have HRR := Lib.hid hRR
     have HF := Lib.hid (HB1.out.2.1.trans (HB2.out.mono HB1.out.2.1.size))
     clear hRR
     go_wp2_with fail
     go_ret
     exact ⟨by rw [HRR.out]; rfl, HF.out⟩
 have b2 : (x.k == 4) = false := beq_eq_false_iff_ne.2 hk4
 have HRH : Hid (R = plainL t.args) := Lib.hid (by rw [HR.out, decide_eq_false hk3, decide_eq_false hk4]; rfl)
 clear hk3 hk4
 go_enter Tryz.func11, Tryz.ntmps11
 go_upto_region 1 with fail
 rw [← hW, ← hbx]
 clear hW hbx
 obtain ⟨V, hV⟩ : ∃ V, V = W := ⟨_, rfl⟩
 have HWV : Hid (Below W.heap.size W V) := Lib.hid (by rw [hV]; exact Below.refl _ _)
 rw [← hV]
 clear hV
 have HVB : Hid (Below u.heap.size u V) := Lib.hid (HB.out.1.trans (HWV.out.mono HB.out.1.size))
 have HCV : Hid (V.cell? ⟨bc, 0, none⟩ = some (plF bc)) := Lib.hid ((HWV.out.cell (p := ⟨bc, 0, none⟩) (World.block_lt_of_cell? W _ HCELL.out)).trans HCELL.out)
 have hxv := (HWV.out.block bx (Array.getElem?_eq_some_iff.1 HX0.out).1).trans HX0.out
 clear f0 f1 f2 f3
 obtain ⟨f0, f1, f2, f3, -⟩ := four_at hxv
 have HXV := Lib.hid hxv
 clear hxv
 go_wp2_with fail
 clear f0 f1 f2 f3
 go_loopw [23] (fun i wr => ∃ k : Nat, k ≤ x.len ∧ i = .int .i64 k ∧ Hid (Below V.heap.size V wr ∧ plainL (t.args.take k) = true)) (fun i _ => x.len - (intOf i).toNat)
 case atStart => exact ⟨0, Nat.zero_le _, rfl, Lib.hid ⟨Below.refl _ _, by simp [plainL]⟩⟩
 case round =>
  obtain ⟨k, hk, rfl, HI⟩ := hrel
  by_cases hkl : k < x.len
  case neg =>
   have b9 : decide ((k : Int) < (x.len : Int)) = false := by simp; omega
   have hRR : R = true := by
    have hke : k = x.len := by omega
    have h1 := HI.out.2
    rw [hke, ← HSZ.out.2.2.2.2.2, List.take_length] at h1
    rw [HRH.out, h1]
   have HRR := Lib.hid hRR
   have HF := Lib.hid (HVB.out.trans (HI.out.1.mono HVB.out.size))
   clear hRR
   go_wp2_with fail
   go_ret
   exact ⟨by rw [HRR.out]; rfl, HF.out⟩
  have b9 : decide ((k : Int) < (x.len : Int)) = true := by simp; omega
  have hk0 : (0 : Int) ≤ (k : Int) := by omega
  have hk1 : (k : Int) < (x.len : Int) := by omega
  have hka : k < t.args.length := by rw [HSZ.out.2.2.2.2.2]; exact hkl
  have hbu : Below u.heap.size u wr := HVB.out.trans (HI.out.1.mono HVB.out.size)
  obtain ⟨b, off, y, hA, hbB, hy, m0, m1, m2, m3⟩ := arg_in (HX.out.blw ((HWV.out.mono HB.out.1.size).trans (HI.out.1.mono (Nat.le_trans HB.out.1.size HWV.out.size)))) hka
  have hbw : b < wr.heap.size := by have := hbu.size; omega
  have hcw : wr.cell? ⟨bc, 0, none⟩ = some (.func (.func 11) #[] #[.pointer (some ⟨bc, 0, none⟩)]) := (HI.out.1.cell (p := ⟨bc, 0, none⟩) (World.block_lt_of_cell? V _ HCV.out)).trans HCV.out
  obtain ⟨V1, hV1⟩ : ∃ V1, V1 = wr.alloc (.cells #[.int .i64 y.k, .int .i64 y.n, .string ⟨y.s.toArray⟩, .slice y.A y.len y.cap] 28) := ⟨_, rfl⟩
  obtain ⟨b6, hb6⟩ : ∃ b6, b6 = wr.heap.size := ⟨_, rfl⟩
  have hbV1 : Below wr.heap.size wr V1 := by rw [hV1]; exact (Below.refl _ _).alloc (Nat.le_refl _) _
  have hy0 : V1.heap[b6]? = some (.cells #[.int .i64 y.k, .int .i64 y.n, .string ⟨y.s.toArray⟩, .slice y.A y.len y.cap] 28 (0, 0)) := by rw [hV1, hb6]; exact heap_alloc_new _ _
  have hc1 : V1.cell? ⟨bc, 0, none⟩ = some (.func (.func 11) #[] #[.pointer (some ⟨bc, 0, none⟩)]) := (hbV1.cell (p := ⟨bc, 0, none⟩) (World.block_lt_of_cell? wr _ hcw)).trans hcw
  have hcl := HC.out (t.args.getD k noTm) V1 y (by have := arg_lt hka; have := HSZ.out.1; omega) (HSZ.out.2.2.1 _ (by rw [List.getD_eq_getElem?_getD, List.getElem?_eq_getElem hka]; exact List.getElem_mem hka)) (by have := arg_lt hka; have := HSZ.out.2.1; omega) (((hy.up (by have := hbu.size; omega)).blw (B := wr.heap.size) hbV1).up hbV1.size) hc1
  obtain ⟨Q, hQ⟩ : ∃ Q, Q = plainT (t.args.getD k noTm) := ⟨_, rfl⟩
  rw [← hQ, tvV_lit] at hcl
  have HCL := Lib.hid hcl
  have HQ := Lib.hid hQ
  have hw2 : IntKind.i64.wrap ((k : Int) + 1) = (k : Int) + 1 := IntWalk.i64_in _ (by have := HSZ.out; omega)
  have HB1 := Lib.hid (And.intro hbV1 (And.intro hbu hka))
  have HY0 := Lib.hid hy0
  have HC1 := Lib.hid hc1
  rw [hA] at *
  clear hcl hQ hbV1 hbu hy0 hc1 hA hbB hy hka hcw
  go_upto_region 6 with fail
  rw [← hV1, ← hb6]
  clear hV1 hb6 m0 m1 m2 m3 hbw
  obtain ⟨y0, y1, y2, y3, -⟩ := four_at HY0.out
  have hc1 := HC1.out
  go_wp2_with fail
  refine HCL.out.mono ?_
  rintro e V2 ⟨rfl, hb2⟩
  have HB2 := Lib.hid ((HB1.out.1).trans (hb2.mono HB1.out.1.size))
  clear hb2 y0 y1 y2 y3 hc1
  cases Q with
  | true =>
   have HNX : Hid (Below V.heap.size V V2 ∧ plainL (t.args.take (k + 1)) = true) := Lib.hid ⟨HI.out.1.trans (HB2.out.mono HI.out.1.size), by rw [take_getD HB1.out.2.2, plainL_snoc, HI.out.2, ← HQ.out]; rfl⟩
   go_wp2_with fail
   go_roundw
   case rel => exact ⟨k + 1, by omega, rfl, HNX⟩
   all_goals (simp [intOf]; omega)
  | false =>
   have hRR : R = false := by
    rw [HRH.out]
    exact plainL_no _ _ (by rw [List.getD_eq_getElem?_getD, List.getElem?_eq_getElem HB1.out.2.2]; exact List.getElem_mem HB1.out.2.2) HQ.out.symm
   have HRR := Lib.hid hRR
   have HF := Lib.hid (HB1.out.2.1.trans (HB2.out.mono HB1.out.2.1.size))
   clear hRR
   go_wp2_with fail
   go_ret
   exact ⟨by rw [HRR.out]; rfl, HF.out⟩
theorem pl_all (bc : Nat) : ∀ n, PlC bc n
 | 0 => fun t _ _ h _ _ _ _ => by have := size_pos t; omega
 | n + 1 => pl_step (pl_all bc n)
mutual
theorem brief_up {a b : Nat} (hab : a ≤ b) : ∀ t : Tm, t.brief a = true → t.brief b = true
 | .mk k n s l, h => by
  rw [Tm.brief, Bool.and_eq_true, decide_eq_true_eq] at h ⊢
  exact ⟨by omega, briefs_up hab l h.2⟩
theorem briefs_up {a b : Nat} (hab : a ≤ b) : ∀ l : List Tm, Tm.briefs a l = true → Tm.briefs b l = true
 | [], _ => rfl
 | t :: r, h => by
  rw [Tm.briefs, Bool.and_eq_true] at h ⊢
  exact ⟨brief_up hab t h.1, briefs_up hab r h.2⟩
end
set_option maxHeartbeats 16000000 in
theorem plain_law (w : World) (A : Option Addr) (n c : Nat) (hp : PartsIn w A n c) (hE : WrEnv w) :
    Calls Tryz.prog 3 #[.slice A n c] w fun e w' => e = .returned (.bool true) ∧ Below w.heap.size w w' := by
 have HE := Lib.hid hE
 have HP := Lib.hid hp
 clear hE hp
 by_cases hn : 60 < n
 ·have hd : decide (60 < n) = true := by simpa using hn
  go_enter Tryz.func3, Tryz.ntmps3
  go_wp2_with fail
  refine (alive7_any w HE.out).mono ?_
  rintro e w1 ⟨rfl, hb1⟩
  have HB1 := Lib.hid hb1
  clear hb1
  go_wp2_with fail
  refine (great_any w1 A n c).mono ?_
  rintro e w2 ⟨rfl, rfl⟩
  rw [hd]
  go_wp2_with fail
  go_ret
  exact ⟨rfl, HB1.out⟩
 have hd : decide (60 < n) = false := by simpa using hn
 obtain ⟨l, hl, hnc, hpl, hnl⟩ := HP.out (by omega)
 obtain ⟨hw, hsz, hdp, hbf, hck⟩ := good_all hnl (by omega)
 have hbare := bare_le opsInit (goodT l).size (goodT l) 1200 (Nat.le_refl _)
 have hsame := bare_same opsInit (goodT l).size (goodT l) 1200 (Nat.le_refl _) hw.may
 have hp0 := put_good (es := opsInit) (way := 0) (.inl rfl) hck
 have hp1 := put_good (es := opsInit) (way := 1) (.inr (.inl rfl)) hck
 obtain ⟨T, hT⟩ : ∃ T, T = goodT l := ⟨_, rfl⟩
 rw [← hT] at hw hsz hdp hbf hbare hsame hp0 hp1
 obtain ⟨X0, hX0⟩ : ∃ X, X = wrT opsInit 0 T 1200 := ⟨_, rfl⟩
 obtain ⟨X1, hX1⟩ : ∃ X, X = wrT opsInit 1 T 1200 := ⟨_, rfl⟩
 rw [← hX0] at hbare hsame hp0
 rw [← hX1] at hbare hsame hp1
 have HT := Lib.hid hT
 have HWF := Lib.hid (And.intro hw (And.intro hsz (And.intro hdp hbf)))
 have HPL := Lib.hid (And.intro hpl (And.intro hl hnc))
 have HSM := Lib.hid hsame
 have HP0 := Lib.hid hp0
 have HP1 := Lib.hid hp1
 have hbl : (X0.length : Int) ≤ (X1.length : Int) := by omega
 have hsz0 : (⟨X0.toArray⟩ : ByteArray).size = X0.length := by simp [ByteArray.size]
 have hsz1 : (⟨X1.toArray⟩ : ByteArray).size = X1.length := by simp [ByteArray.size]
 clear hT hw hsz hdp hbf hpl hl hnc hnl hck hsame hp0 hp1 hX0 hX1
 go_enter Tryz.func3, Tryz.ntmps3
 go_wp2_with fail
 refine (alive7_any w HE.out).mono ?_
 rintro e w1 ⟨rfl, hb1⟩
 have HB1 := Lib.hid hb1
 clear hb1
 go_wp2_with fail
 refine (great_any w1 A n c).mono ?_
 rintro e w2 ⟨rfl, rfl⟩
 rw [hd]
 obtain ⟨bc, hbc⟩ : ∃ b, b = w2.heap.size := ⟨_, rfl⟩
 obtain ⟨V, hV⟩ : ∃ V, V = w2.alloc (.cells #[.func (.func 11) #[] #[.pointer (some ⟨bc, 0, none⟩)]] 25) := ⟨_, rfl⟩
 have hbV : Below w2.heap.size w2 V := by rw [hV]; exact (Below.refl _ _).alloc (Nat.le_refl _) _
 have hc0 : V.heap[bc]? = some (.cells #[.func (.func 11) #[] #[.pointer (some ⟨bc, 0, none⟩)]] 25 (0, 0)) := by rw [hV, hbc]; exact heap_alloc_new _ _
 have HBV := Lib.hid (And.intro hbV hc0)
 clear hbV hc0
 go_upto_region 7 with fail
 rw [← hbc, ← hV]
 clear hbc hV
 have hgd := good_any l V A c (by have := HPL.out.2; omega) ((HPL.out.1.later HB1.out).later HBV.out.1) (by have := HPL.out.2.1; omega)
 rw [HPL.out.2.1] at hgd
 have HGD := Lib.hid hgd
 clear hgd
 go_wp2_with fail
 refine HGD.out.mono ?_
 rintro e W1 ⟨x, rfl, hx, hb1⟩
 rw [tvV_lit]
 obtain ⟨U, hU⟩ : ∃ U, U = W1.alloc (.cells #[.int .i64 x.k, .int .i64 x.n, .string ⟨x.s.toArray⟩, .slice x.A x.len x.cap] 28) := ⟨_, rfl⟩
 obtain ⟨bx, hbx⟩ : ∃ b, b = W1.heap.size := ⟨_, rfl⟩
 have hbU : Below W1.heap.size W1 U := by rw [hU]; exact (Below.refl _ _).alloc (Nat.le_refl _) _
 have hx0 : U.heap[bx]? = some (.cells #[.int .i64 x.k, .int .i64 x.n, .string ⟨x.s.toArray⟩, .slice x.A x.len x.cap] 28 (0, 0)) := by rw [hU, hbx]; exact heap_alloc_new _ _
 have hbu : Below w.heap.size w U := (HB1.out.trans (HBV.out.1.mono HB1.out.size)).trans ((hb1.trans (hbU.mono hb1.size)).mono (Nat.le_trans HB1.out.size HBV.out.1.size))
 have hbv2 : Below V.heap.size V U := hb1.trans (hbU.mono hb1.size)
 have HU := Lib.hid (And.intro hbu hx0)
 have HCU : Hid (U.cell? ⟨bc, 0, none⟩ = some (.func (.func 11) #[] #[.pointer (some ⟨bc, 0, none⟩)])) := Lib.hid (by
  rw [cell_of_row U bc 0 _ _ (0, 0) ((hbv2.block bc (Array.getElem?_eq_some_iff.1 HBV.out.2).1).trans HBV.out.2)]
  rfl)
 have HXU : Hid (∀ v, Below U.heap.size U v → TermAt v v.heap.size x T) := Lib.hid fun v hv => by
  rw [HT.out]
  exact (((hx.at (B := W1.heap.size) fun q hq => hq.2).blw hbU).up hbU.size).later hv
 have HENV : Hid (∀ v, Below U.heap.size U v → WrEnv v) := Lib.hid fun v hv => (HE.out.later hbu).later hv
 clear hx hb1 hbU hx0 hbu hbv2
 go_upto_region 8 with fail
 rw [← hU, ← hbx]
 clear hU hbx
 have HCELLS : Hid (∀ v, Below U.heap.size U v → v.cell? ⟨bx, 0, none⟩ = some (.int .i64 x.k) ∧ v.cell? ⟨bx, 1, none⟩ = some (.int .i64 x.n) ∧ v.cell? ⟨bx, 2, none⟩ = some (.string ⟨x.s.toArray⟩) ∧ v.cell? ⟨bx, 3, none⟩ = some (.slice x.A x.len x.cap)) := Lib.hid fun v hv => by
  obtain ⟨g0, g1, g2, g3, -⟩ := four_at ((hv.block bx (Array.getElem?_eq_some_iff.1 HU.out.2).1).trans HU.out.2)
  exact ⟨g0, g1, g2, g3⟩
 have HNEW : Hid (∀ v, Below U.heap.size U v → Calls Tryz.prog 15 #[] v fun e v' => ∃ bt bm, e = .returned (.pointer (some ⟨bt, 0, none⟩)) ∧ TabAt v' bt bm opsInit ∧ Below U.heap.size U v') := Lib.hid fun v hv => by
  have hE := HENV.out v hv
  refine (new_any v hE.rd.kinds hE.rd.tab).mono ?_
  rintro e v' ⟨bt, bm, rfl, h1, -, -, -, h2⟩
  exact ⟨bt, bm, rfl, h1, hv.trans (h2.mono hv.size)⟩
 have HPUT : Hid (∀ v bt bm way Y, (way = 0 ∨ way = 1) → putF opsInit way T = (Y, 0) → Below U.heap.size U v → TabAt v bt bm opsInit → Calls Tryz.prog 14 #[.agg #[.int .i64 x.k, .int .i64 x.n, .string ⟨x.s.toArray⟩, .slice x.A x.len x.cap], .int .i64 way, .pointer (some ⟨bt, 0, none⟩)] v fun e v' => e = .returned (.tuple #[.string ⟨Y.toArray⟩, .int .i64 0]) ∧ Below U.heap.size U v') := Lib.hid fun v bt bm way Y _ hY hv ht => by
  rw [← tvV_lit]
  refine (wput_any v x T bt bm opsInit way (HXU.out v hv) HWF.out.1.fits (by have := HWF.out.2; omega) (by have := HWF.out.2; omega) (HENV.out v hv).wr ht).mono ?_
  rintro e v' ⟨rfl, h1⟩
  rw [hY]
  exact ⟨rfl, hv.trans (h1.mono hv.size)⟩
 have hbr := Below.refl U.heap.size U
 have hbd : Below U.heap.size U U.drew := (Below.refl U.heap.size U).drew
 obtain ⟨y0, y1, y2, y3⟩ := HCELLS.out U hbr
 go_region_held3 (fun v => v.cell? ⟨bx, 0, none⟩ = some (.int .i64 x.k) ∧ v.cell? ⟨bx, 1, none⟩ = some (.int .i64 x.n) ∧ v.cell? ⟨bx, 2, none⟩ = some (.string ⟨x.s.toArray⟩) ∧ v.cell? ⟨bx, 3, none⟩ = some (.slice x.A x.len x.cap))
  (first | (with_reducible exact HCELLS.out _ (by assumption)))
  (first | (go_at_call 15; with_reducible refine (HNEW.out _ (by assumption)).mono ?_; rintro e V1 ⟨bt, bm, rfl, ht, hb1⟩) | (go_at_call 14; refine (HPUT.out _ _ _ 0 X0 (.inl rfl) HP0.out (by assumption) (by assumption)).mono ?_; rintro e V2 ⟨rfl, hb2⟩))
 have hbd2 : Below U.heap.size U V2.drew := hb2.drew
 clear y0 y1 y2 y3 hbr hbd hb1 ht
 obtain ⟨y0, y1, y2, y3⟩ := HCELLS.out V2 hb2
 go_wp2_with fail
 go_region_held3 (fun v => v.cell? ⟨bx, 0, none⟩ = some (.int .i64 x.k) ∧ v.cell? ⟨bx, 1, none⟩ = some (.int .i64 x.n) ∧ v.cell? ⟨bx, 2, none⟩ = some (.string ⟨x.s.toArray⟩) ∧ v.cell? ⟨bx, 3, none⟩ = some (.slice x.A x.len x.cap))
  (first | (with_reducible exact HCELLS.out _ (by assumption)))
  (first | (go_at_call 15; with_reducible refine (HNEW.out _ (by assumption)).mono ?_; rintro e V3 ⟨bt3, bm3, rfl, ht, hb3⟩) | (go_at_call 14; refine (HPUT.out _ _ _ 1 X1 (.inr rfl) HP1.out (by assumption) (by assumption)).mono ?_; rintro e V4 ⟨rfl, hb4⟩))
 have hcl := (HCU.out ▸ (hb4.cell (p := ⟨bc, 0, none⟩) (World.block_lt_of_cell? U _ HCU.out)) : V4.cell? ⟨bc, 0, none⟩ = some (.func (.func 11) #[] #[.pointer (some ⟨bc, 0, none⟩)]))
 have hpl := pl_all bc T.size T V4 x (Nat.le_refl _) (brief_up (by decide) T HWF.out.2.2.2) (by have := HWF.out.2; omega) (HXU.out V4 hb4) hcl
 rw [tvV_lit] at hpl
 obtain ⟨Q, hQ⟩ : ∃ Q, Q = plainT T := ⟨_, rfl⟩
 rw [← hQ] at hpl
 have HPLN := Lib.hid hpl
 have HQ := Lib.hid hQ
 have HB4 := Lib.hid hb4
 clear y0 y1 y2 y3 hb2 hbd2 hb3 ht hpl hQ
 obtain ⟨y0, y1, y2, y3⟩ := HCELLS.out V4 hb4
 clear hb4
 cases Q with
 | true =>
  have hxx : X0 = X1 := HSM.out HQ.out.symm
  subst hxx
  go_wp2_with fail
  refine HPLN.out.mono ?_
  rintro e V5 ⟨rfl, hb5⟩
  have HF := Lib.hid (HU.out.1.trans ((HB4.out.trans (hb5.mono HB4.out.size)).mono HU.out.1.size))
  clear hb5
  go_wp2_with fail
  go_ret
  exact ⟨by simp, HF.out⟩
 | false =>
  go_wp2_with fail
  refine HPLN.out.mono ?_
  rintro e V5 ⟨rfl, hb5⟩
  have HF := Lib.hid (HU.out.1.trans ((HB4.out.trans (hb5.mono HB4.out.size)).mono HU.out.1.size))
  clear hb5
  go_wp2_with fail
  go_ret
  exact ⟨by simp, HF.out⟩
end Go.Proofs.YtcallkljcjimiaaGreatDoor
