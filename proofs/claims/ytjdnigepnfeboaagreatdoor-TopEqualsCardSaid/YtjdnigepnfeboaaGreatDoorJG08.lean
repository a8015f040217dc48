import Derived.Test.YtjdnigepnfeboaaGreatDoorJG02
import Derived.Test.YtjdnigepnfeboaaGreatDoorJG01
import Derived.WalkSpells
import Derived.Deep.LoopGhost
namespace Go.Proofs.YtjdnigepnfeboaaGreatDoor
open Go.RowKit
set_option maxRecDepth 100000
set_option maxHeartbeats 4000000 in
theorem may_any (w : World) (x : TV) (hs : x.s.length ≤ maxLen) (hl : x.len ≤ maxLen) :
    Calls Tryz.prog 221 #[tvV x] w fun e w' => e = .returned (.bool (mayP x.k x.n x.s x.len)) ∧ Below w.heap.size w w' := by
 obtain ⟨k, n, s, A, m, c⟩ := x
 simp only at hs hl
 unfold tvV
 simp only
 obtain ⟨r, hr⟩ : ∃ r, r = mayP k n s m := ⟨_, rfl⟩
 rw [← hr]
 have HRR := Lib.hid hr
 have hs' : (s.length : Int) ≤ 9223372036854775807 := by unfold maxLen at hs; omega
 have hm' : (m : Int) ≤ 9223372036854775807 := by unfold maxLen at hl; omega
 clear hr hs hl
 by_cases h1 : k = 1
 ·subst h1
  go_enter Tryz.func221, Tryz.ntmps221
  go_wp2_with fail
  all_goals
   go_ret
   refine ⟨?_, (Below.refl _ _).alloc (Nat.le_refl _) _⟩
   have h := HRR.out
   clear HRR
   subst h
   congr 2
   simp_all [mayP] <;> (first | (intros; omega) | (rw [Bool.eq_iff_iff]; simp; omega) | (rw [Bool.eq_iff_iff]; simp))
 by_cases h2 : k = 2
 ·subst h2
  clear h1
  go_enter Tryz.func221, Tryz.ntmps221
  go_wp2_with fail
  all_goals
   go_ret
   refine ⟨?_, (Below.refl _ _).alloc (Nat.le_refl _) _⟩
   have h := HRR.out
   clear HRR
   subst h
   congr 2
   simp_all [mayP] <;> (first | (intros; omega) | (rw [Bool.eq_iff_iff]; simp; omega) | (rw [Bool.eq_iff_iff]; simp))
 by_cases h3 : k = 3
 ·subst h3
  clear h1 h2
  go_enter Tryz.func221, Tryz.ntmps221
  go_wp2_with fail
  all_goals
   go_ret
   refine ⟨?_, (Below.refl _ _).alloc (Nat.le_refl _) _⟩
   have h := HRR.out
   clear HRR
   subst h
   congr 2
   simp_all [mayP] <;> (first | (intros; omega) | (rw [Bool.eq_iff_iff]; simp; omega) | (rw [Bool.eq_iff_iff]; simp))
 by_cases h4 : k = 4
 ·subst h4
  clear h1 h2 h3
  go_enter Tryz.func221, Tryz.ntmps221
  go_wp2_with fail
  all_goals
   go_ret
   refine ⟨?_, (Below.refl _ _).alloc (Nat.le_refl _) _⟩
   have h := HRR.out
   clear HRR
   subst h
   congr 2
   simp_all [mayP] <;> (first | (intros; omega) | (rw [Bool.eq_iff_iff]; simp; omega) | (rw [Bool.eq_iff_iff]; simp))
 ·go_enter Tryz.func221, Tryz.ntmps221
  go_wp2_with fail
  all_goals
   go_ret
   refine ⟨?_, (Below.refl _ _).alloc (Nat.le_refl _) _⟩
   have h := HRR.out
   clear HRR
   subst h
   congr 2
   simp_all [mayP]
structure Meas where
 bad : Bool
 size : Nat
 deep : Nat
def MeasAt (w : World) (b : Nat) (m : Meas) : Prop := w.heap[b]? = some (.cells #[.bool m.bad, .int .i64 m.size, .int .i64 m.deep] 166 (0, 0))
def Meas.step (m : Meas) (k n : Int) (s : List UInt8) (a d : Nat) : Meas := ⟨m.bad || !mayP k n s a, m.size + 1, max m.deep d⟩
theorem meas_cells {w1 : World} {b : Nat} {a0 a1 a2 : Value} {t : TypeId} (h : w1.heap[b]? = some (.cells #[a0, a1, a2] t (0, 0))) :
    w1.cell? ⟨b, 0, none⟩ = some a0 ∧ w1.cell? ⟨b, 1, none⟩ = some a1 ∧ w1.cell? ⟨b, 2, none⟩ = some a2 ∧ (∀ o, w1.frozen? ⟨b, o, none⟩ = false) :=
 ⟨by rw [cell_of_row w1 b 0 _ t (0, 0) h]; rfl, by rw [cell_of_row w1 b 1 _ t (0, 0) h]; rfl, by rw [cell_of_row w1 b 2 _ t (0, 0) h]; rfl, fun o => by simp [World.frozen?, h]⟩
set_option maxHeartbeats 4000000 in
theorem take_any (w : World) (b : Nat) (m : Meas) (x : TV) (d : Nat) (hs : x.s.length ≤ maxLen) (hl : x.len ≤ maxLen) (hb : MeasAt w b m) (hsz : m.size ≤ 1000000000) :
    Calls Tryz.prog 135 #[.pointer (some ⟨b, 0, none⟩), tvV x, .int .i64 d] w fun e w' => e = .returned (.tuple #[]) ∧ MeasAt w' b (m.step x.k x.n x.s x.len d) ∧ Fr (fun k => k = b) w w' := by
 have HM : Hid (∀ W : World, Calls Tryz.prog 221 #[tvV x] W fun e W' => e = .returned (.bool (mayP x.k x.n x.s x.len)) ∧ Below W.heap.size W W') := Lib.hid fun W => may_any W x hs hl
 obtain ⟨k, n, s, A, a, c⟩ := x
 unfold tvV at *
 simp only at HM ⊢
 unfold Meas.step
 generalize mayP k n s a = q at *
 obtain ⟨bad, sz, dp⟩ := m
 simp only at hsz ⊢
 have hbl : b < w.heap.size := (Array.getElem?_eq_some_iff.1 hb).1
 have hne : b ≠ w.heap.size := by omega
 unfold MeasAt at hb
 simp only at hb
 have c0 : w.cell? ⟨b, 0, none⟩ = some (.bool bad) := by rw [cell_of_row w b 0 _ _ (0, 0) hb]; rfl
 have c1 : w.cell? ⟨b, 1, none⟩ = some (.int .i64 sz) := by rw [cell_of_row w b 1 _ _ (0, 0) hb]; rfl
 have c2 : w.cell? ⟨b, 2, none⟩ = some (.int .i64 dp) := by rw [cell_of_row w b 2 _ _ (0, 0) hb]; rfl
 have hf : ∀ o, w.frozen? ⟨b, o, none⟩ = false := fun o => by simp [World.frozen?, hb]
 have HB := Lib.hid hb
 clear hb
 by_cases hdd : dp < d
 ·have hmax : max dp d = d := by omega
  have hdd' : (dp : Int) < (d : Int) := by omega
  have hmx : max (dp : Int) (d : Int) = (d : Int) := by omega
  rw [hmax]
  clear hmax hdd
  cases q
  ·go_enter Tryz.func135, Tryz.ntmps135
   go_wp2_with fail
   refine (HM.out _).mono ?_
   rintro e w2 ⟨rfl, hb2⟩
   have hw2 : w2.heap[b]? = some (.cells #[.bool bad, .int .i64 ((sz : Int) + 1), .int .i64 (d : Nat)] 166 (0, 0)) := by
    rw [hb2.block b (by simp [World.setCell]; omega), Below.heap_alloc _ _ _ (by simp [World.setCell]; omega)]
    exact blk_put (blk_put HB.out _) _
   have hf2 : Fr (fun k => k = b) w w2 := (((Fr.refl (fun k => k = b) w).setCell (p := ⟨b, 1, none⟩) (.inl rfl) _).setCell (p := ⟨b, 2, none⟩) (.inl rfl) _).alloc _ |>.step hb2
   have HF2 := Lib.hid hf2
   have HW2 := Lib.hid hw2
   obtain ⟨d0, d1, d2, df⟩ := meas_cells hw2
   clear hb2 hw2 hf2
   go_wp2_with fail
   go_end0
   exact ⟨rfl, by rw [Bool.not_false, Bool.or_true]; exact blk_put HW2.out _, HF2.out.setCell (p := ⟨b, 0, none⟩) (.inl rfl) _⟩
  ·go_enter Tryz.func135, Tryz.ntmps135
   go_wp2_with fail
   refine (HM.out _).mono ?_
   rintro e w2 ⟨rfl, hb2⟩
   have hw2 : w2.heap[b]? = some (.cells #[.bool bad, .int .i64 ((sz : Int) + 1), .int .i64 (d : Nat)] 166 (0, 0)) := by
    rw [hb2.block b (by simp [World.setCell]; omega), Below.heap_alloc _ _ _ (by simp [World.setCell]; omega)]
    exact blk_put (blk_put HB.out _) _
   have hf2 : Fr (fun k => k = b) w w2 := (((Fr.refl (fun k => k = b) w).setCell (p := ⟨b, 1, none⟩) (.inl rfl) _).setCell (p := ⟨b, 2, none⟩) (.inl rfl) _).alloc _ |>.step hb2
   have HF2 := Lib.hid hf2
   have HW2 := Lib.hid hw2
   obtain ⟨d0, d1, d2, df⟩ := meas_cells hw2
   clear hb2 hw2 hf2
   go_wp2_with fail
   go_end0
   exact ⟨rfl, by rw [Bool.not_true, Bool.or_false]; exact HW2.out, HF2.out⟩
 ·have hmax : max dp d = dp := by omega
  have hdd' : ¬ (dp : Int) < (d : Int) := by omega
  have hmx : max (dp : Int) (d : Int) = (dp : Int) := by omega
  rw [hmax]
  clear hmax hdd
  cases q
  ·go_enter Tryz.func135, Tryz.ntmps135
   go_wp2_with fail
   refine (HM.out _).mono ?_
   rintro e w2 ⟨rfl, hb2⟩
   have hw2 : w2.heap[b]? = some (.cells #[.bool bad, .int .i64 ((sz : Int) + 1), .int .i64 (dp : Nat)] 166 (0, 0)) := by
    rw [hb2.block b (by simp [World.setCell]; omega), Below.heap_alloc _ _ _ (by simp [World.setCell]; omega)]
    exact blk_put (blk_put HB.out _) _
   have hf2 : Fr (fun k => k = b) w w2 := (((Fr.refl (fun k => k = b) w).setCell (p := ⟨b, 1, none⟩) (.inl rfl) _).setCell (p := ⟨b, 2, none⟩) (.inl rfl) _).alloc _ |>.step hb2
   have HF2 := Lib.hid hf2
   have HW2 := Lib.hid hw2
   obtain ⟨d0, d1, d2, df⟩ := meas_cells hw2
   clear hb2 hw2 hf2
   go_wp2_with fail
   go_end0
   exact ⟨rfl, by rw [Bool.not_false, Bool.or_true]; exact blk_put HW2.out _, HF2.out.setCell (p := ⟨b, 0, none⟩) (.inl rfl) _⟩
  ·go_enter Tryz.func135, Tryz.ntmps135
   go_wp2_with fail
   refine (HM.out _).mono ?_
   rintro e w2 ⟨rfl, hb2⟩
   have hw2 : w2.heap[b]? = some (.cells #[.bool bad, .int .i64 ((sz : Int) + 1), .int .i64 (dp : Nat)] 166 (0, 0)) := by
    rw [hb2.block b (by simp [World.setCell]; omega), Below.heap_alloc _ _ _ (by simp [World.setCell]; omega)]
    exact blk_put (blk_put HB.out _) _
   have hf2 : Fr (fun k => k = b) w w2 := (((Fr.refl (fun k => k = b) w).setCell (p := ⟨b, 1, none⟩) (.inl rfl) _).setCell (p := ⟨b, 2, none⟩) (.inl rfl) _).alloc _ |>.step hb2
   have HF2 := Lib.hid hf2
   have HW2 := Lib.hid hw2
   obtain ⟨d0, d1, d2, df⟩ := meas_cells hw2
   clear hb2 hw2 hf2
   go_wp2_with fail
   go_end0
   exact ⟨rfl, by rw [Bool.not_true, Bool.or_false]; exact HW2.out, HF2.out⟩
abbrev AbT := TV × Nat
def encAb (x : AbT) : List Value := encTV x.1 ++ [.int .i64 x.2]
theorem encAb_len (x : AbT) : (encAb x).length = 5 := rfl
theorem encAb_one (x : AbT) : ∀ u ∈ encAb x, u.oneCell' = true := by
 intro u hu
 simp [encAb, encTV] at hu
 rcases hu with rfl | rfl | rfl | rfl | rfl <;> rfl
theorem ab_info : ∃ i z, Tryz.prog.info? 320 = some i ∧ i.zero = some z ∧ i.size = 5 ∧ i.bytes = 64 ∧ z.cells.size = 5 := by
 refine ⟨_, _, rfl, rfl, ?_, ?_, ?_⟩ <;> kernel_rfl
inductive Stk (w : World) (B : Nat) : List AbT → List (Tm × Nat) → Prop
 | nil : Stk w B [] []
 | snoc (st : List AbT) (pd : List (Tm × Nat)) (x : TV) (t : Tm) (d : Nat) (h : Stk w B st pd) (ht : TermAt w B x t) : Stk w B (st ++ [(x, d)]) ((t, d) :: pd)
theorem Stk.len {w : World} {B : Nat} {st : List AbT} {pd : List (Tm × Nat)} (h : Stk w B st pd) : st.length = pd.length := by
 induction h with
 | nil => rfl
 | snoc st pd x t d _ _ ih => simp [ih]
theorem Stk.pop {w : World} {B : Nat} {st : List AbT} {t : Tm} {d : Nat} {pd : List (Tm × Nat)} (h : Stk w B st ((t, d) :: pd)) : ∃ st' x, st = st' ++ [(x, d)] ∧ Stk w B st' pd ∧ TermAt w B x t := by
 cases h with
 | snoc st pd x t d h ht => exact ⟨st, x, rfl, h, ht⟩
def pdSize : List (Tm × Nat) → Nat | [] => 0 | (t, _) :: r => t.size + pdSize r
def pdDeep : List (Tm × Nat) → Nat | [] => 0 | (t, d) :: r => max (d + t.deep - 1) (pdDeep r)
def pdMay : List (Tm × Nat) → Bool | [] => true | (t, _) :: r => t.may && pdMay r
def Meas.all (m : Meas) (pd : List (Tm × Nat)) : Meas := ⟨m.bad || !pdMay pd, m.size + pdSize pd, max m.deep (pdDeep pd)⟩
def pdArgs (d : Nat) (l : List Tm) : List (Tm × Nat) := l.map fun t => (t, d)
theorem deep_pos : ∀ t : Tm, 1 ≤ t.deep
 | .mk k n s l => by rw [Tm.deep]; omega
theorem size_pos : ∀ t : Tm, 1 ≤ t.size
 | .mk k n s l => by rw [Tm.size]; omega
theorem pdSize_args (d : Nat) (r : List (Tm × Nat)) : ∀ l : List Tm, pdSize (pdArgs d l ++ r) = Tm.sizes l + pdSize r
 | [] => by simp [pdArgs, Tm.sizes]
 | t :: l => by
  have := pdSize_args d r l
  simp only [pdArgs, List.map_cons, List.cons_append, pdSize, Tm.sizes] at this ⊢
  omega
theorem pdMay_args (d : Nat) (r : List (Tm × Nat)) : ∀ l : List Tm, pdMay (pdArgs d l ++ r) = (Tm.mays l && pdMay r)
 | [] => by simp [pdArgs, Tm.mays]
 | t :: l => by
  have := pdMay_args d r l
  simp only [pdArgs, List.map_cons, List.cons_append, pdMay, Tm.mays] at this ⊢
  rw [this, Bool.and_assoc]
theorem pdDeep_args (d : Nat) (r : List (Tm × Nat)) : ∀ l : List Tm, max d (pdDeep (pdArgs (d + 1) l ++ r)) = max (d + Tm.deeps l) (pdDeep r)
 | [] => by simp [pdArgs, Tm.deeps]
 | t :: l => by
  have h := pdDeep_args d r l
  have hp := deep_pos t
  simp only [pdArgs, List.map_cons, List.cons_append, pdDeep, Tm.deeps] at h ⊢
  omega
theorem Meas.all_nil (m : Meas) : m.all [] = m := by
 obtain ⟨a, b, c⟩ := m
 simp [Meas.all, pdMay, pdSize, pdDeep]
theorem args_sizes : ∀ l : List Tm, l.length ≤ Tm.sizes l
 | [] => Nat.zero_le _
 | t :: l => by
  have := args_sizes l
  have := size_pos t
  simp only [List.length_cons, Tm.sizes]
  omega
theorem args_size (t : Tm) : t.args.length + 1 ≤ t.size := by
 obtain ⟨k, n, s, l⟩ := t
 have := args_sizes l
 simp only [Tm.args, Tm.size]
 omega
theorem size_args (t : Tm) : t.size = 1 + Tm.sizes t.args := by
 obtain ⟨k, n, s, l⟩ := t
 rfl
theorem sizes_drop : ∀ (a : Nat) (l : List Tm), Tm.sizes (l.drop a) ≤ Tm.sizes l
 | 0, l => by simp
 | a + 1, [] => by simp
 | a + 1, t :: l => by
  have := sizes_drop a l
  simp only [List.drop_succ_cons, Tm.sizes]
  omega
theorem mem_sizes : ∀ (l : List Tm) (t : Tm), t ∈ l → t.size ≤ Tm.sizes l
 | x :: l, t, h => by
  simp only [Tm.sizes]
  rcases List.mem_cons.1 h with rfl | h
  ·omega
  ·have := mem_sizes l t h
   omega
theorem pdSize_len : ∀ l : List (Tm × Nat), l.length ≤ pdSize l
 | [] => Nat.zero_le _
 | (t, d) :: l => by
  have := pdSize_len l
  have := size_pos t
  simp only [List.length_cons, pdSize]
  omega
theorem Meas.all_step (m : Meas) (t : Tm) (d : Nat) (r : List (Tm × Nat)) (hd : 1 ≤ d) : (m.step t.k t.n t.s t.args.length d).all (pdArgs (d + 1) t.args ++ r) = m.all ((t, d) :: r) := by
 obtain ⟨k, n, s, l⟩ := t
 have h := pdDeep_args d r l
 simp only [Meas.all, Meas.step, Tm.k, Tm.n, Tm.s, Tm.args, pdSize_args, pdMay_args, pdSize, pdMay, pdDeep, Tm.size, Tm.may, Tm.deep, Meas.mk.injEq]
 refine ⟨by cases m.bad <;> cases mayP k n s l.length <;> cases Tm.mays l <;> cases pdMay r <;> rfl, by omega, by omega⟩
structure WalkInv (w : World) (b B : Nat) (st : List AbT) (pd : List (Tm × Nat)) (m : Meas) (v : Value) (u : World) : Prop where
 row : Row u w.heap.size 320 5 encAb v st
 stk : Stk w B st pd
 meas : MeasAt u b m
 fr : Fr (fun k => k = b ∨ w.heap.size ≤ k) w u
theorem tvV_lit (x : TV) : tvV x = .agg #[.int .i64 x.k, .int .i64 x.n, .string ⟨x.s.toArray⟩, .slice x.A x.len x.cap] := rfl
set_option maxHeartbeats 8000000 in
theorem walkM_any (w : World) (b B : Nat) (m : Meas) (x : TV) (t : Tm) (hx : TermAt w B x t) (hB : B ≤ b) (hb : MeasAt w b m) (hsz : t.size + m.size ≤ 100000000) :
    Calls Tryz.prog 134 #[tvV x, .func (Fn.func 135) #[.pointer (some ⟨b, 0, none⟩)] #[]] w fun e w' => e = .returned (.tuple #[]) ∧ MeasAt w' b (m.all [(t, 1)]) ∧ Fr (fun k => k = b) w w' := by
 have hbl : b < w.heap.size := (Array.getElem?_eq_some_iff.1 hb).1
 obtain ⟨i, z, hi, hz, hsi, hby, hzs⟩ := ab_info
 have hI : WalkInv w b B [(x, 1)] [(t, 1)] m (.slice (some ⟨w.heap.size + 1, 0, none⟩) 1 1) ((w.alloc (.cells (encTV x).toArray 27)).alloc (.cells (encAb (x, 1)).toArray 320)) := by
  refine ⟨?_, .snoc [] [] x t 1 .nil hx, ?_, ((Fr.refl _ w).alloc _).alloc _⟩
  ·have := Row.one (B := w.heap.size) (e := 320) encAb_len (w.alloc (.cells (encTV x).toArray 27)) (x, 1) (by simp)
   simpa using this
  ·unfold MeasAt
   rw [Below.heap_alloc _ _ _ (by simp; omega), Below.heap_alloc _ _ _ hbl]
   exact hb
 have HI := Lib.hid hI
 obtain ⟨M, hM⟩ : ∃ M, M = m.all [(t, 1)] := ⟨_, rfl⟩
 rw [← hM]
 have HM := Lib.hid hM
 clear hI hM hx hb
 rw [tvV_lit]
 go_enter Tryz.func134, Tryz.ntmps134
 go_wp2_with fail
 change Code.wp _ _ _ _ ((w.alloc (.cells (encTV x).toArray 27)).alloc (.cells (encAb (x, 1)).toArray 320))
 go_loopg [4] t.size (fun g v u => ∃ st pd m', WalkInv w b B st pd m' v u ∧ Hid (m'.all pd = M ∧ pdSize pd = g ∧ m'.size + pdSize pd ≤ 100000000 ∧ ∀ p ∈ pd, 1 ≤ p.2 ∧ p.2 + p.1.size ≤ 100000001))
 case atStart => exact ⟨_, _, _, HI.out, Lib.hid ⟨HM.out.symm, by simp [pdSize], by simp [pdSize]; omega, fun p hp => by simp at hp; subst hp; simp only; omega⟩⟩
 case round =>
  obtain ⟨st, pd, m', hR, HH⟩ := hrel
  clear HI
  obtain _ | ⟨⟨t1, d⟩, pd⟩ := pd
  ·have hl := hR.stk.len
   obtain rfl : st = [] := List.eq_nil_of_length_eq_zero hl
   obtain ⟨A1, c1, rfl⟩ := hR.row.shape
   have HR := Lib.hid hR
   clear hR hl
   go_wp2_with fail
   go_end0
   have e1 : m' = M := by rw [← HH.out.1, Meas.all_nil]
   exact ⟨rfl, by rw [← e1]; exact HR.out.meas, HR.out.fr.mono fun k hk e => e.elim id (fun h => by omega)⟩
  ·obtain ⟨st, x1, rfl, hs1, ht1⟩ := hR.stk.pop
   obtain ⟨tk, tn, ts, tl, tm, targ⟩ := ht1.open
   obtain ⟨g, cap, rfl, hg0, hg1, hcap, hcs⟩ := hR.row.cells encAb_len (by simp)
   obtain ⟨hd1, hd2⟩ : 1 ≤ d ∧ d + t1.size ≤ 100000001 := HH.out.2.2.2 _ (List.mem_cons_self ..)
   have hal := Meas.all_step m' t1 d pd hd1
   rw [tk, tn, ts, tl] at hal
   have hsz1 : pdSize ((t1, d) :: pd) = t1.size + pdSize pd := rfl
   have hts : t1.args.length + 1 ≤ t1.size := args_size t1
   have hb9 := HH.out.2.2.1
   have hps := size_pos t1
   have hll : x1.len ≤ 100000000 := by omega
   have hst : st.length ≤ 100000000 := by
    have h1 := hs1.len
    have h2 := pdSize_len pd
    omega
   have e0 := (hcs st.length (x1, d) (by simp) 0 _ rfl).1
   have e1 := (hcs st.length (x1, d) (by simp) 1 _ rfl).1
   have e2 := (hcs st.length (x1, d) (by simp) 2 _ rfl).1
   have e3 := (hcs st.length (x1, d) (by simp) 3 _ rfl).1
   have e4 := (hcs st.length (x1, d) (by simp) 4 _ rfl).1
   simp only [Nat.add_zero] at e0
   have hrow := hR.row
   rw [List.length_append, List.length_cons, List.length_nil] at hrow hcap ⊢
   have hfront := Row.front encAb_len hrow
   have hwr : w.heap.size ≤ wr.heap.size := hR.fr.size
   have hF1 : Fr (fun k => k = b ∨ w.heap.size ≤ k) w (wr.alloc (.cells (encAb (x1, d)).toArray 320)) := hR.fr.alloc _
   have hM1 : MeasAt (wr.alloc (.cells (encAb (x1, d)).toArray 320)) b m' := by
    unfold MeasAt
    rw [Below.heap_alloc _ _ _ (by omega)]
    exact hR.meas
   have hbx : (wr.alloc (.cells (encAb (x1, d)).toArray 320)).heap[wr.heap.size]? = some (.cells (encAb (x1, d)).toArray 320 (0, 0)) := heap_alloc_new wr _
   have hR1 := hfront.alloc (.cells (encAb (x1, d)).toArray 320)
   obtain ⟨w2, hw2⟩ : ∃ w2, w2 = wr.alloc (.cells (encAb (x1, d)).toArray 320) := ⟨_, rfl⟩
   obtain ⟨bx, hbxe⟩ : ∃ bx, bx = wr.heap.size := ⟨_, rfl⟩
   rw [← hw2] at hF1 hM1 hbx hR1
   rw [← hbxe] at hbx
   have hrl : st.length < st.length + 1 := Nat.lt_succ_self _
   have HT1 := Lib.hid ht1
   have HARG := Lib.hid targ
   have HAL := Lib.hid hal
   have HS1 := Lib.hid hs1
   have HF1 := Lib.hid hF1
   have HM1 := Lib.hid hM1
   have HBX := Lib.hid hbx
   have HR1 := Lib.hid hR1
   have HTL := Lib.hid tl
   have hcN : (st.length : Int) + 1 ≤ (cap : Int) := by omega
   have hg9 : g < bx := by omega
   have hs9 : st.length ≤ cap := by omega
   clear hR ht1 tk tn ts tl targ hcs hal hs1 hrow hfront hF1 hM1 hbx hR1
   go_wp2_with fail
   change Calls _ _ _ (wr.alloc (.cells (encAb (x1, d)).toArray 320)) _
   rw [← hw2, ← hbxe]
   refine (take_any w2 b m' x1 d tm (by unfold maxLen; omega) HM1.out (by omega)).mono ?_
   rintro e w3 ⟨rfl, hm3, hf3⟩
   have hbx2 := (Array.getElem?_eq_some_iff.1 HBX.out).1
   have hb3 : w3.heap[bx]? = some (.cells (encAb (x1, d)).toArray 320 (0, 0)) := (hf3.block bx hbx2 (by omega)).trans HBX.out
   have hI3 : WalkInv w b B st pd (m'.step x1.k x1.n x1.s x1.len d) (.slice (some ⟨g, 0, none⟩) st.length cap) w3 :=
    ⟨HR1.out.keep fun k hk => hf3.block k (HR1.out.lt k hk).2 (by have := (HR1.out.lt k hk).1; omega), HS1.out, hm3, HF1.out.trans (hf3.weak fun k hk => .inl hk)⟩
   have HI3 := Lib.hid hI3
   have HB3 := Lib.hid hb3
   have d3 : w3.cell? ⟨bx, 3, none⟩ = some (.slice x1.A x1.len x1.cap) := by rw [cell_of_row w3 bx 3 _ _ (0, 0) hb3]; rfl
   clear hm3 hf3 hb3 hI3 HR1 HM1 HF1 hw2 hbxe e0 e1 e2 e3 e4 hg1 hwr hbx2 HBX
   have hm9 : m'.size + 1 ≤ 100000000 := by omega
   go_wp2_with fail
   go_loopw [4, 6] (fun v i u => ∃ a st', a ≤ x1.len ∧ i = .int .i64 ((a : Int) - 1) ∧ Hid (WalkInv w b B st' (pdArgs (d + 1) (t1.args.drop a) ++ pd) (m'.step x1.k x1.n x1.s x1.len d) v u ∧ u.heap[bx]? = some (.cells (encAb (x1, d)).toArray 320 (0, 0)) ∧ v.ownBlock ≠ some bx)) (fun _ i _ => (intOf i + 1).toNat)
   case atStart =>
    refine ⟨x1.len, st, Nat.le_refl _, rfl, Lib.hid ⟨?_, HB3.out, ?_⟩⟩
    ·have e9 : t1.args.drop x1.len = [] := by rw [← HTL.out, List.drop_length]
     rw [e9]
     exact HI3.out
    ·simp [Value.ownBlock]; omega
   case round =>
    obtain ⟨a, st', ha, rfl, HR⟩ := hrel
    clear d3
    have d3 : wr.cell? ⟨bx, 3, none⟩ = some (.slice x1.A x1.len x1.cap) := by rw [cell_of_row wr bx 3 _ _ (0, 0) HR.out.2.1]; rfl
    have d4 : wr.cell? ⟨bx, 4, none⟩ = some (.int .i64 d) := by rw [cell_of_row wr bx 4 _ _ (0, 0) HR.out.2.1]; rfl
    obtain _ | a := a
    ·have HF : Hid (WalkInv w b B st' (pdArgs (d + 1) t1.args ++ pd) (m'.step x1.k x1.n x1.s x1.len d) _ wr) := Lib.hid HR.out.1
     go_wp2_with fail
     have hh := HH.out
     go_roundg (pdSize (pdArgs (d + 1) t1.args ++ pd))
     case measure =>
      rw [pdSize_args, ← hh.2.1]
      show Tm.sizes t1.args + pdSize pd < t1.size + pdSize pd
      rw [size_args t1]
      omega
     case rel =>
      refine ⟨_, _, _, HF.out, Lib.hid ⟨by rw [HAL.out]; exact hh.1, rfl, ?_, ?_⟩⟩
      ·rw [pdSize_args]
       have h1 := size_args t1
       show m'.size + 1 + _ ≤ _
       omega
      ·intro p hp
       rcases List.mem_append.1 hp with hp | hp
       ·obtain ⟨t', ht', rfl⟩ := List.mem_map.1 hp
        have h1 := mem_sizes t1.args t' ht'
        have h2 := size_args t1
        simp only
        omega
       ·exact hh.2.2.2 p (List.mem_cons_of_mem _ hp)
    ·have hla : a < t1.args.length := by rw [HTL.out]; omega
     obtain ⟨y, b9, off9, hA9, hb9', ht9, hc9⟩ := HARG.out a _ (List.getElem?_eq_getElem hla)
     have hdrop : t1.args.drop a = t1.args[a] :: t1.args.drop (a + 1) := List.drop_eq_getElem_cons hla
     generalize t1.args[a] = ty at ht9 hdrop
     have hbw := HR.out.1.fr
     have hc9' : ∀ j u, (encTV y)[j]? = some u → wr.cell? ⟨b9, off9 + a * 4 + j, none⟩ = some u := fun j u hu =>
      (hbw.cell (p := ⟨b9, off9 + a * 4 + j, none⟩) (by simp only; omega) (by simp only; omega)).trans (hc9 j u hu)
     have f0 := hc9' 0 _ rfl
     have f1 := hc9' 1 _ rfl
     have f2 := hc9' 2 _ rfl
     have f3 := hc9' 3 _ rfl
     simp only [Nat.add_zero] at f0
     have hlen := HR.out.1.stk.len
     have hst9 : st'.length ≤ 100000000 := by
      have h1 := pdSize_len (pdArgs (d + 1) (t1.args.drop (a + 1)) ++ pd)
      rw [pdSize_args] at h1
      have h2 := sizes_drop (a + 1) t1.args
      have h3 := size_args t1
      have h4 := HH.out.2.2.1
      have h5 : pdSize ((t1, d) :: pd) = t1.size + pdSize pd := rfl
      omega
     have hwr9 := hbw.size
     have hbb9 : b < wr.heap.size := by omega
     have hblk := heap_alloc_new wr (.cells (encAb (y, d + 1)).toArray 320)
     obtain ⟨g9, cap9, w9, hr9, hR9, hg9', ho9⟩ := Row.push (P := Tryz.prog) 321 Tryz.underlying321 hi hz hsi hby hzs (by decide) encAb_len encAb_one
      (w := (wr.alloc (.cells (encAb (y, d + 1)).toArray 320)).drew) (HR.out.1.row.later (((Below.refl _ _).alloc (Nat.le_refl _) _).drew)) (y, d + 1) wr.heap.size 1
      (fun j u hu => cell_made wr _ _ j u (by simpa using hu)) (by unfold maxLen; omega) (by omega) (by simp; omega)
     obtain ⟨v9, hv9⟩ : ∃ v9, v9 = Value.slice (some ⟨g9, 0, none⟩) (st'.length + 1) cap9 := ⟨_, rfl⟩
     rw [← hv9] at hr9 hR9
     have hr9 : (Builtin.append_ #[321, 321] 321 #[_, .slice (some ⟨wr.heap.size, 0, none⟩) 1 1]).run Tryz.prog (wr.alloc (.cells #[.int .i64 y.k, .int .i64 y.n, .string ⟨y.s.toArray⟩, .slice y.A y.len y.cap, .int .i64 ((d : Int) + 1)] 320)).drew = .ok v9 w9 := hr9
     have hbx3 := (Array.getElem?_eq_some_iff.1 HR.out.2.1).1
     have hne : u4.ownBlock ≠ some b := fun e => by have := (HR.out.1.row.lt b e).1; omega
     have hI9 : WalkInv w b B (st' ++ [(y, d + 1)]) (pdArgs (d + 1) (t1.args.drop a) ++ pd) (m'.step x1.k x1.n x1.s x1.len d) v9 w9 := by
      refine ⟨hR9, ?_, ?_, ?_⟩
      ·rw [hdrop]
       exact .snoc _ _ y ty (d + 1) HR.out.1.stk ht9
      ·unfold MeasAt
       rw [hg9'.block b (by simp; omega) (fun e => hne e.symm)]
       exact (Below.heap_alloc _ _ _ hbb9).trans HR.out.1.meas
      ·exact ((HR.out.1.fr.alloc _).drew).grown hg9' (fun k e => .inl (.inr (HR.out.1.row.lt k e).1))
     have hbx9 : w9.heap[bx]? = some (.cells (encAb (x1, d)).toArray 320 (0, 0)) := by
      rw [hg9'.block bx (by simp; omega) (fun e => HR.out.2.2 e.symm)]
      exact (Below.heap_alloc _ _ _ hbx3).trans HR.out.2.1
     have hob9 : v9.ownBlock ≠ some bx := by
      rw [hv9]
      intro e
      have e' : g9 = bx := by simpa [Value.ownBlock] using e
      rcases ho9 with h | h
      ·exact HR.out.2.2 (by rw [h, e'])
      ·simp at h
       omega
     have HX9 := Lib.hid (And.intro hI9 (And.intro hbx9 hob9))
     have hd9 : (d : Int) + 1 ≤ 200000000 := by omega
     have hwd : IntKind.i64.wrap ((d : Int) + 1) = (d : Int) + 1 := IntWalk.i64_in _ (by omega)
     have ha9 : (a : Int) < (x1.len : Int) := by omega
     have hl9 : wr.heap.size ≠ bx := by omega
     have hbl9 : bx < wr.heap.size := hbx3
     have hb99 : b9 < wr.heap.size := by omega
     rw [show (((a + 1 : Nat) : Int) - 1) = (a : Int) by omega]
     clear hI9 hbx9 hob9 hne hg9' ho9 hblk hR9 hv9 hc9 hc9' hdrop ht9 hbw hlen
     obtain ⟨xk, xn, xs, xA, xl, xc⟩ := x1
     simp only at hA9 d3 d4 ha9 ha
     subst hA9
     go_wp2_with fail
     go_region_law (first | (refine step_run rfl (.tmp 39) (.tmp 50) 321 rfl (by rfl) (by rfl) hr9 ?_))
     all_goals
      go_wp2_with fail
      go_roundw
      case rel => exact ⟨a, _, by omega, rfl, HX9⟩
      case measure => simp [intOf]
def Meas.none : Meas := ⟨false, 0, 0⟩
theorem meas_all (t : Tm) : Meas.none.all [(t, 1)] = ⟨!t.may, t.size, t.deep⟩ := by
 have := deep_pos t
 have e : max 0 (max (1 + t.deep - 1) 0) = t.deep := by omega
 simp only [Meas.none, Meas.all, pdMay, pdSize, pdDeep, Bool.and_true, Bool.false_or, Nat.zero_add, Nat.add_zero, e]
set_option maxHeartbeats 4000000 in
theorem measured_any (w : World) (x : TV) (t : Tm) (hx : TermAt w w.heap.size x t) (hsz : t.size ≤ 10000000) :
    Calls Tryz.prog 68 #[tvV x] w fun e w' => e = .returned (.agg #[.bool (!t.may), .int .i64 t.size, .int .i64 t.deep]) ∧ Below w.heap.size w w' := by
 have HX := Lib.hid hx
 have hmm := meas_all t
 generalize (!t.may) = q at hmm ⊢
 have HMM := Lib.hid hmm
 clear hx hmm
 rw [tvV_lit]
 go_enter Tryz.func68, Tryz.ntmps68
 go_wp2_with fail
 generalize hW : World.alloc (World.alloc (World.alloc w (.cells #[.int .i64 x.k, .int .i64 x.n, .string ⟨x.s.toArray⟩, .slice x.A x.len x.cap] 27)) (.cells #[.bool false, .int .i64 0, .int .i64 0] 166)) (.cells #[.bool false, .int .i64 0, .int .i64 0] 166) = W
 have hbW : MeasAt W (w.heap.size + 1 + 1) Meas.none := by
  unfold MeasAt
  rw [← hW]
  have := heap_alloc_new ((w.alloc (.cells #[.int .i64 x.k, .int .i64 x.n, .string ⟨x.s.toArray⟩, .slice x.A x.len x.cap] 27)).alloc (.cells #[.bool false, .int .i64 0, .int .i64 0] 166)) (.cells #[.bool false, .int .i64 0, .int .i64 0] 166)
  simpa [Meas.none] using this
 have hrW : W.heap[w.heap.size + 1]? = some (.cells #[.bool false, .int .i64 0, .int .i64 0] 166 (0, 0)) := by
  rw [← hW, Below.heap_alloc _ _ _ (by simp)]
  have := heap_alloc_new (w.alloc (.cells #[.int .i64 x.k, .int .i64 x.n, .string ⟨x.s.toArray⟩, .slice x.A x.len x.cap] 27)) (.cells #[.bool false, .int .i64 0, .int .i64 0] 166)
  simpa using this
 have hfW : Below w.heap.size w W := by rw [← hW]; exact (((Below.refl _ w).alloc (Nat.le_refl _) _).alloc (by simp) _).alloc (by simp; omega) _
 refine (walkM_any W (w.heap.size + 1 + 1) w.heap.size Meas.none x t (HX.out.blw hfW) (by omega) hbW (by simp only [Meas.none]; omega)).mono ?_
 rintro e w2 ⟨rfl, hb2, hf2⟩
 rw [HMM.out] at hb2
 have hB2 := Lib.hid (hfW.trans (hf2.below (B := w.heap.size) hfW.size (fun k hk => by omega)))
 obtain ⟨c0, c1, c2, hf⟩ := meas_cells hb2
 obtain ⟨d0, d1, d2, df⟩ := meas_cells ((hf2.block (w.heap.size + 1) (Array.getElem?_eq_some_iff.1 hrW).1 (by omega)).trans hrW)
 clear hb2 hf2 hfW hbW hW hrW
 go_wp2_with fail
 refine bodyPost_ret (v := .agg #[.bool q, .int .i64 t.size, .int .i64 t.deep]) (by simp [results, Tryz.results68, go_sem, d0, d1, d2]) rfl ⟨rfl, ?_⟩
 repeat (refine Below.setCell ?_ (by simp; try omega) _)
 exact hB2.out
def checkT (t : Tm) : Int := if t.may = false then 2 else if 2000 < t.deep then 4 else if 20000 < t.size then 3 else 0
theorem meas_size (a : Bool) (b c : Int) (w : World) : (Instr.field 166 (.agg #[.bool a, .int .i64 b, .int .i64 c]) 1).run Tryz.prog w = .ok (.int .i64 b) w := by kernel_rfl
set_option maxHeartbeats 2000000 in
theorem size_any (w : World) (x : TV) (t : Tm) (hx : TermAt w w.heap.size x t) (hsz : t.size ≤ 10000000) :
    Calls Tryz.prog 128 #[tvV x] w fun e w' => e = .returned (.int .i64 t.size) ∧ Below w.heap.size w w' := by
 have HM : Hid (∀ o, Calls Tryz.prog 68 #[tvV x] (w.alloc o) fun e w' => e = .returned (.agg #[.bool (!t.may), .int .i64 t.size, .int .i64 t.deep]) ∧ Below (w.alloc o).heap.size (w.alloc o) w') :=
  Lib.hid fun o => measured_any _ x t (hx.later ((Below.refl _ _).alloc (Nat.le_refl _) _)) hsz
 have hms := meas_size
 clear hx
 rw [tvV_lit] at *
 go_enter Tryz.func128, Tryz.ntmps128
 go_wp2_with fail
 refine (HM.out _).mono ?_
 rintro e w1 ⟨rfl, hb⟩
 have hb9 := ((Below.refl w.heap.size w).alloc (Nat.le_refl _) _).trans (hb.mono (by simp))
 have HB := Lib.hid hb9
 clear hb hb9
 go_wp2_with fail
 go_ret
 exact ⟨rfl, HB.out⟩
set_option maxHeartbeats 4000000 in
theorem check_any (w : World) (x : TV) (t : Tm) (hx : TermAt w w.heap.size x t) (hsz : t.size ≤ 10000000) (hdp : t.deep ≤ 10000000) :
    Calls Tryz.prog 30 #[tvV x] w fun e w' => e = .returned (.int .i64 (checkT t)) ∧ Below w.heap.size w w' := by
 have HM : Hid (∀ o, Calls Tryz.prog 68 #[tvV x] (w.alloc o) fun e w' => e = .returned (.agg #[.bool (!t.may), .int .i64 t.size, .int .i64 t.deep]) ∧ Below (w.alloc o).heap.size (w.alloc o) w') :=
  Lib.hid fun o => measured_any _ x t (hx.later ((Below.refl _ _).alloc (Nat.le_refl _) _)) hsz
 clear hx
 rw [tvV_lit] at *
 obtain ⟨r, hr⟩ : ∃ r, r = checkT t := ⟨_, rfl⟩
 rw [← hr]
 have HR := Lib.hid hr
 unfold checkT at HR
 clear hr
 generalize t.may = q at *
 generalize t.size = n at *
 generalize t.deep = d at *
 cases q
 ·go_enter Tryz.func30, Tryz.ntmps30
  go_wp2_with fail
  refine (HM.out _).mono ?_
  rintro e w1 ⟨rfl, hb⟩
  have HB := Lib.hid (((Below.refl w.heap.size w).alloc (Nat.le_refl _) _).trans (hb.mono (by simp)))
  clear hb
  go_wp2_with fail
  go_ret
  exact ⟨by rw [HR.out]; simp, HB.out.alloc HB.out.size _⟩
 ·go_enter Tryz.func30, Tryz.ntmps30
  go_wp2_with fail
  refine (HM.out _).mono ?_
  rintro e w1 ⟨rfl, hb⟩
  have HB := Lib.hid (((Below.refl w.heap.size w).alloc (Nat.le_refl _) _).trans (hb.mono (by simp)))
  clear hb
  go_wp2_with fail
  all_goals
   go_ret
   refine ⟨?_, HB.out.alloc HB.out.size _⟩
   have e9 : r = if 2000 < d then 4 else if 20000 < n then 3 else 0 := by have h := HR.out; simpa using h
   rw [e9]
   show Ending.returned (Value.int .i64 _) = _
   congr 2
   (repeat' split) <;> omega
end Go.Proofs.YtjdnigepnfeboaaGreatDoor
