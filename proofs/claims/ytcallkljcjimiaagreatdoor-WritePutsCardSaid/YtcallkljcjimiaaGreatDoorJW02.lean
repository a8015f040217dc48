import Derived.Test.YtcallkljcjimiaaGreatDoorJW01
import Derived.LoopTactic
import Derived.Deep.LoopGhost
import Derived.IntWalk
import Derived.WalkKit
import Derived.WalkSmall
import Derived.Lib.Hide
namespace Go.Proofs.YtcallkljcjimiaaGreatDoor
open Go.RowKit
set_option maxRecDepth 100000
abbrev AbT := TV × Nat
def encAb (x : AbT) : List Value := encTV x.1 ++ [.int .i64 x.2]
theorem encAb_len (x : AbT) : (encAb x).length = 5 := rfl
theorem encAb_one (x : AbT) : ∀ u ∈ encAb x, u.oneCell' = true := by
 intro u hu
 simp [encAb, encTV] at hu
 rcases hu with rfl | rfl | rfl | rfl | rfl <;> rfl
theorem ab_info : ∃ i z, Tryz.prog.info? 198 = some i ∧ i.zero = some z ∧ i.size = 5 ∧ i.bytes = 64 ∧ z.cells.size = 5 := by
 refine ⟨_, _, rfl, rfl, ?_, ?_, ?_⟩ <;> kernel_rfl
inductive Stk (w : World) (B : Nat) : List AbT → List (Tm × Nat) → Prop
 | nil : Stk w B [] []
 | snoc (st : List AbT) (pd : List (Tm × Nat)) (x : TV) (t : Tm) (d : Nat) (h : Stk w B st pd) (ht : TermAt w B x t) : Stk w B (st ++ [(x, d)]) ((t, d) :: pd)
theorem Stk.len {w : World} {B : Nat} {st : List AbT} {pd : List (Tm × Nat)} (h : Stk w B st pd) : st.length = pd.length := by
 induction h with
 | nil => rfl
 | snoc st pd x t d _ _ ih => simp [ih]
theorem Stk.pop {w : World} {B : Nat} {st : List AbT} {t : Tm} {d : Nat} {pd : List (Tm × Nat)} (h : Stk w B st ((t, d) :: pd)) : ∃ st' x, st = st' ++ [(x, d)] ∧ Stk w B st' pd ∧ TermAt w B x t := by
 cases h with
 | snoc st pd x t d h ht => exact ⟨st, x, rfl, h, ht⟩
def pdSize : List (Tm × Nat) → Nat | [] => 0 | (t, _) :: r => t.size + pdSize r
def pdDeep : List (Tm × Nat) → Nat | [] => 0 | (t, d) :: r => max (d + t.deep - 1) (pdDeep r)
def pdMay : List (Tm × Nat) → Bool | [] => true | (t, _) :: r => t.may && pdMay r
def Meas.all (m : Meas) (pd : List (Tm × Nat)) : Meas := ⟨m.bad || !pdMay pd, m.size + pdSize pd, max m.deep (pdDeep pd)⟩
def pdArgs (d : Nat) (l : List Tm) : List (Tm × Nat) := l.map fun t => (t, d)
theorem deep_pos : ∀ t : Tm, 1 ≤ t.deep
 | .mk k n s l => by rw [Tm.deep]; omega
theorem size_pos : ∀ t : Tm, 1 ≤ t.size
 | .mk k n s l => by rw [Tm.size]; omega
theorem pdSize_args (d : Nat) (r : List (Tm × Nat)) : ∀ l : List Tm, pdSize (pdArgs d l ++ r) = Tm.sizes l + pdSize r
 | [] => by simp [pdArgs, Tm.sizes]
 | t :: l => by
  have := pdSize_args d r l
  simp only [pdArgs, List.map_cons, List.cons_append, pdSize, Tm.sizes] at this ⊢
  omega
theorem pdMay_args (d : Nat) (r : List (Tm × Nat)) : ∀ l : List Tm, pdMay (pdArgs d l ++ r) = (Tm.mays l && pdMay r)
 | [] => by simp [pdArgs, Tm.mays]
 | t :: l => by
  have := pdMay_args d r l
  simp only [pdArgs, List.map_cons, List.cons_append, pdMay, Tm.mays] at this ⊢
  rw [this, Bool.and_assoc]
theorem pdDeep_args (d : Nat) (r : List (Tm × Nat)) : ∀ l : List Tm, max d (pdDeep (pdArgs (d + 1) l ++ r)) = max (d + Tm.deeps l) (pdDeep r)
 | [] => by simp [pdArgs, Tm.deeps]
 | t :: l => by
  have h := pdDeep_args d r l
  have hp := deep_pos t
  simp only [pdArgs, List.map_cons, List.cons_append, pdDeep, Tm.deeps] at h ⊢
  omega
theorem Meas.all_nil (m : Meas) : m.all [] = m := by
 obtain ⟨a, b, c⟩ := m
 simp [Meas.all, pdMay, pdSize, pdDeep]
theorem args_sizes : ∀ l : List Tm, l.length ≤ Tm.sizes l
 | [] => Nat.zero_le _
 | t :: l => by
  have := args_sizes l
  have := size_pos t
  simp only [List.length_cons, Tm.sizes]
  omega
theorem args_size (t : Tm) : t.args.length + 1 ≤ t.size := by
 obtain ⟨k, n, s, l⟩ := t
 have := args_sizes l
 simp only [Tm.args, Tm.size]
 omega
theorem size_args (t : Tm) : t.size = 1 + Tm.sizes t.args := by
 obtain ⟨k, n, s, l⟩ := t
 rfl
theorem sizes_drop : ∀ (a : Nat) (l : List Tm), Tm.sizes (l.drop a) ≤ Tm.sizes l
 | 0, l => by simp
 | a + 1, [] => by simp
 | a + 1, t :: l => by
  have := sizes_drop a l
  simp only [List.drop_succ_cons, Tm.sizes]
  omega
theorem mem_sizes : ∀ (l : List Tm) (t : Tm), t ∈ l → t.size ≤ Tm.sizes l
 | x :: l, t, h => by
  simp only [Tm.sizes]
  rcases List.mem_cons.1 h with rfl | h
  ·omega
  ·have := mem_sizes l t h
   omega
theorem pdSize_len : ∀ l : List (Tm × Nat), l.length ≤ pdSize l
 | [] => Nat.zero_le _
 | (t, d) :: l => by
  have := pdSize_len l
  have := size_pos t
  simp only [List.length_cons, pdSize]
  omega
theorem Meas.all_step (m : Meas) (t : Tm) (d : Nat) (r : List (Tm × Nat)) (hd : 1 ≤ d) : (m.step t.k t.n t.s t.args.length d).all (pdArgs (d + 1) t.args ++ r) = m.all ((t, d) :: r) := by
 obtain ⟨k, n, s, l⟩ := t
 have h := pdDeep_args d r l
 simp only [Meas.all, Meas.step, Tm.k, Tm.n, Tm.s, Tm.args, pdSize_args, pdMay_args, pdSize, pdMay, pdDeep, Tm.size, Tm.may, Tm.deep, Meas.mk.injEq]
 refine ⟨by cases m.bad <;> cases mayP k n s l.length <;> cases Tm.mays l <;> cases pdMay r <;> rfl, by omega, by omega⟩
structure WalkInv (w : World) (b B : Nat) (st : List AbT) (pd : List (Tm × Nat)) (m : Meas) (v : Value) (u : World) : Prop where
 row : Row u w.heap.size 198 5 encAb v st
 stk : Stk w B st pd
 meas : MeasAt u b m
 fr : Fr (fun k => k = b ∨ w.heap.size ≤ k) w u
theorem tvV_lit (x : TV) : tvV x = .agg #[.int .i64 x.k, .int .i64 x.n, .string ⟨x.s.toArray⟩, .slice x.A x.len x.cap] := rfl
set_option maxHeartbeats 8000000 in
theorem walkM_any (w : World) (b B : Nat) (m : Meas) (x : TV) (t : Tm) (hx : TermAt w B x t) (hB : B ≤ b) (hb : MeasAt w b m) (hsz : t.size + m.size ≤ 100000000) :
    Calls Tryz.prog 103 #[tvV x, .func (Fn.func 104) #[.pointer (some ⟨b, 0, none⟩)] #[]] w fun e w' => e = .returned (.tuple #[]) ∧ MeasAt w' b (m.all [(t, 1)]) ∧ Fr (fun k => k = b) w w' := by
 have hbl : b < w.heap.size := (Array.getElem?_eq_some_iff.1 hb).1
 obtain ⟨i, z, hi, hz, hsi, hby, hzs⟩ := ab_info
 have hI : WalkInv w b B [(x, 1)] [(t, 1)] m (.slice (some ⟨w.heap.size + 1, 0, none⟩) 1 1) ((w.alloc (.cells (encTV x).toArray 28)).alloc (.cells (encAb (x, 1)).toArray 198)) := by
  refine ⟨?_, .snoc [] [] x t 1 .nil hx, ?_, ((Fr.refl _ w).alloc _).alloc _⟩
  ·have := Row.one (B := w.heap.size) (e := 198) encAb_len (w.alloc (.cells (encTV x).toArray 28)) (x, 1) (by simp)
   simpa using this
  ·unfold MeasAt
   rw [Below.heap_alloc _ _ _ (by simp; omega), Below.heap_alloc _ _ _ hbl]
   exact hb
 have HI := Lib.hid hI
 obtain ⟨M, hM⟩ : ∃ M, M = m.all [(t, 1)] := ⟨_, rfl⟩
 rw [← hM]
 have HM := Lib.hid hM
 clear hI hM hx hb
 rw [tvV_lit]
 go_enter Tryz.func103, Tryz.ntmps103
 go_wp2_with fail
 change Code.wp _ _ _ _ ((w.alloc (.cells (encTV x).toArray 28)).alloc (.cells (encAb (x, 1)).toArray 198))
 go_loopg [4] t.size (fun g v u => ∃ st pd m', WalkInv w b B st pd m' v u ∧ Hid (m'.all pd = M ∧ pdSize pd = g ∧ m'.size + pdSize pd ≤ 100000000 ∧ ∀ p ∈ pd, 1 ≤ p.2 ∧ p.2 + p.1.size ≤ 100000001))
 case atStart => exact ⟨_, _, _, HI.out, Lib.hid ⟨HM.out.symm, by simp [pdSize], by simp [pdSize]; omega, fun p hp => by simp at hp; subst hp; simp only; omega⟩⟩
 case round =>
  obtain ⟨st, pd, m', hR, HH⟩ := hrel
  clear HI
  obtain _ | ⟨⟨t1, d⟩, pd⟩ := pd
  ·have hl := hR.stk.len
   obtain rfl : st = [] := List.eq_nil_of_length_eq_zero hl
   obtain ⟨A1, c1, rfl⟩ := hR.row.shape
   have HR := Lib.hid hR
   clear hR hl
   go_wp2_with fail
   go_end0
   have e1 : m' = M := by rw [← HH.out.1, Meas.all_nil]
   exact ⟨rfl, by rw [← e1]; exact HR.out.meas, HR.out.fr.mono fun k hk e => e.elim id (fun h => by omega)⟩
  ·obtain ⟨st, x1, rfl, hs1, ht1⟩ := hR.stk.pop
   obtain ⟨tk, tn, ts, tl, tm, targ⟩ := ht1.open
   obtain ⟨g, cap, rfl, hg0, hg1, hcap, hcs⟩ := hR.row.cells encAb_len (by simp)
   obtain ⟨hd1, hd2⟩ : 1 ≤ d ∧ d + t1.size ≤ 100000001 := HH.out.2.2.2 _ (List.mem_cons_self ..)
   have hal := Meas.all_step m' t1 d pd hd1
   rw [tk, tn, ts, tl] at hal
   have hsz1 : pdSize ((t1, d) :: pd) = t1.size + pdSize pd := rfl
   have hts : t1.args.length + 1 ≤ t1.size := args_size t1
   have hb9 := HH.out.2.2.1
   have hps := size_pos t1
   have hll : x1.len ≤ 100000000 := by omega
   have hst : st.length ≤ 100000000 := by
    have h1 := hs1.len
    have h2 := pdSize_len pd
    omega
   have e0 := (hcs st.length (x1, d) (by simp) 0 _ rfl).1
   have e1 := (hcs st.length (x1, d) (by simp) 1 _ rfl).1
   have e2 := (hcs st.length (x1, d) (by simp) 2 _ rfl).1
   have e3 := (hcs st.length (x1, d) (by simp) 3 _ rfl).1
   have e4 := (hcs st.length (x1, d) (by simp) 4 _ rfl).1
   simp only [Nat.add_zero] at e0
   have hrow := hR.row
   rw [List.length_append, List.length_cons, List.length_nil] at hrow hcap ⊢
   have hfront := Row.front encAb_len hrow
   have hwr : w.heap.size ≤ wr.heap.size := hR.fr.size
   have hF1 : Fr (fun k => k = b ∨ w.heap.size ≤ k) w (wr.alloc (.cells (encAb (x1, d)).toArray 198)) := hR.fr.alloc _
   have hM1 : MeasAt (wr.alloc (.cells (encAb (x1, d)).toArray 198)) b m' := by
    unfold MeasAt
    rw [Below.heap_alloc _ _ _ (by omega)]
    exact hR.meas
   have hbx : (wr.alloc (.cells (encAb (x1, d)).toArray 198)).heap[wr.heap.size]? = some (.cells (encAb (x1, d)).toArray 198 (0, 0)) := heap_alloc_new wr _
   have hR1 := hfront.alloc (.cells (encAb (x1, d)).toArray 198)
   obtain ⟨w2, hw2⟩ : ∃ w2, w2 = wr.alloc (.cells (encAb (x1, d)).toArray 198) := ⟨_, rfl⟩
   obtain ⟨bx, hbxe⟩ : ∃ bx, bx = wr.heap.size := ⟨_, rfl⟩
   rw [← hw2] at hF1 hM1 hbx hR1
   rw [← hbxe] at hbx
   have hrl : st.length < st.length + 1 := Nat.lt_succ_self _
   have HT1 := Lib.hid ht1
   have HARG := Lib.hid targ
   have HAL := Lib.hid hal
   have HS1 := Lib.hid hs1
   have HF1 := Lib.hid hF1
   have HM1 := Lib.hid hM1
   have HBX := Lib.hid hbx
   have HR1 := Lib.hid hR1
   have HTL := Lib.hid tl
   have hcN : (st.length : Int) + 1 ≤ (cap : Int) := by omega
   have hg9 : g < bx := by omega
   have hs9 : st.length ≤ cap := by omega
   clear hR ht1 tk tn ts tl targ hcs hal hs1 hrow hfront hF1 hM1 hbx hR1
   go_wp2_with fail
   change Calls _ _ _ (wr.alloc (.cells (encAb (x1, d)).toArray 198)) _
   rw [← hw2, ← hbxe]
   refine (take_any w2 b m' x1 d tm (by unfold maxLen; omega) HM1.out (by omega)).mono ?_
   rintro e w3 ⟨rfl, hm3, hf3⟩
   have hbx2 := (Array.getElem?_eq_some_iff.1 HBX.out).1
   have hb3 : w3.heap[bx]? = some (.cells (encAb (x1, d)).toArray 198 (0, 0)) := (hf3.block bx hbx2 (by omega)).trans HBX.out
   have hI3 : WalkInv w b B st pd (m'.step x1.k x1.n x1.s x1.len d) (.slice (some ⟨g, 0, none⟩) st.length cap) w3 :=
    ⟨HR1.out.keep fun k hk => hf3.block k (HR1.out.lt k hk).2 (by have := (HR1.out.lt k hk).1; omega), HS1.out, hm3, HF1.out.trans (hf3.weak fun k hk => .inl hk)⟩
   have HI3 := Lib.hid hI3
   have HB3 := Lib.hid hb3
   have d3 : w3.cell? ⟨bx, 3, none⟩ = some (.slice x1.A x1.len x1.cap) := by rw [cell_of_row w3 bx 3 _ _ (0, 0) hb3]; rfl
   clear hm3 hf3 hb3 hI3 HR1 HM1 HF1 hw2 hbxe e0 e1 e2 e3 e4 hg1 hwr hbx2 HBX
   have hm9 : m'.size + 1 ≤ 100000000 := by omega
   go_wp2_with fail
   go_loopw [4, 6] (fun v i u => ∃ a st', a ≤ x1.len ∧ i = .int .i64 ((a : Int) - 1) ∧ Hid (WalkInv w b B st' (pdArgs (d + 1) (t1.args.drop a) ++ pd) (m'.step x1.k x1.n x1.s x1.len d) v u ∧ u.heap[bx]? = some (.cells (encAb (x1, d)).toArray 198 (0, 0)) ∧ v.ownBlock ≠ some bx)) (fun _ i _ => (intOf i + 1).toNat)
   case atStart =>
    refine ⟨x1.len, st, Nat.le_refl _, rfl, Lib.hid ⟨?_, HB3.out, ?_⟩⟩
    ·have e9 : t1.args.drop x1.len = [] := by rw [← HTL.out, List.drop_length]
     rw [e9]
     exact HI3.out
    ·simp [Value.ownBlock]; omega
   case round =>
    obtain ⟨a, st', ha, rfl, HR⟩ := hrel
    clear d3
    have d3 : wr.cell? ⟨bx, 3, none⟩ = some (.slice x1.A x1.len x1.cap) := by rw [cell_of_row wr bx 3 _ _ (0, 0) HR.out.2.1]; rfl
    have d4 : wr.cell? ⟨bx, 4, none⟩ = some (.int .i64 d) := by rw [cell_of_row wr bx 4 _ _ (0, 0) HR.out.2.1]; rfl
    obtain _ | a := a
    ·have HF : Hid (WalkInv w b B st' (pdArgs (d + 1) t1.args ++ pd) (m'.step x1.k x1.n x1.s x1.len d) _ wr) := Lib.hid HR.out.1
     go_wp2_with fail
     have hh := HH.out
     go_roundg (pdSize (pdArgs (d + 1) t1.args ++ pd))
     case measure =>
      rw [pdSize_args, ← hh.2.1]
      show Tm.sizes t1.args + pdSize pd < t1.size + pdSize pd
      rw [size_args t1]
      omega
     case rel =>
      refine ⟨_, _, _, HF.out, Lib.hid ⟨by rw [HAL.out]; exact hh.1, rfl, ?_, ?_⟩⟩
      ·rw [pdSize_args]
       have h1 := size_args t1
       show m'.size + 1 + _ ≤ _
       omega
      ·intro p hp
       rcases List.mem_append.1 hp with hp | hp
       ·obtain ⟨t', ht', rfl⟩ := List.mem_map.1 hp
        have h1 := mem_sizes t1.args t' ht'
        have h2 := size_args t1
        simp only
        omega
       ·exact hh.2.2.2 p (List.mem_cons_of_mem _ hp)
    ·have hla : a < t1.args.length := by rw [HTL.out]; omega
     obtain ⟨y, b9, off9, hA9, hb9', ht9, hc9⟩ := HARG.out a _ (List.getElem?_eq_getElem hla)
     have hdrop : t1.args.drop a = t1.args[a] :: t1.args.drop (a + 1) := List.drop_eq_getElem_cons hla
     generalize t1.args[a] = ty at ht9 hdrop
     have hbw := HR.out.1.fr
     have hc9' : ∀ j u, (encTV y)[j]? = some u → wr.cell? ⟨b9, off9 + a * 4 + j, none⟩ = some u := fun j u hu =>
      (hbw.cell (p := ⟨b9, off9 + a * 4 + j, none⟩) (by simp only; omega) (by simp only; omega)).trans (hc9 j u hu)
     have f0 := hc9' 0 _ rfl
     have f1 := hc9' 1 _ rfl
     have f2 := hc9' 2 _ rfl
     have f3 := hc9' 3 _ rfl
     simp only [Nat.add_zero] at f0
     have hlen := HR.out.1.stk.len
     have hst9 : st'.length ≤ 100000000 := by
      have h1 := pdSize_len (pdArgs (d + 1) (t1.args.drop (a + 1)) ++ pd)
      rw [pdSize_args] at h1
      have h2 := sizes_drop (a + 1) t1.args
      have h3 := size_args t1
      have h4 := HH.out.2.2.1
      have h5 : pdSize ((t1, d) :: pd) = t1.size + pdSize pd := rfl
      omega
     have hwr9 := hbw.size
     have hbb9 : b < wr.heap.size := by omega
     have hblk := heap_alloc_new wr (.cells (encAb (y, d + 1)).toArray 198)
     obtain ⟨g9, cap9, w9, hr9, hR9, hg9', ho9⟩ := Row.push (P := Tryz.prog) 199 Tryz.underlying199 hi hz hsi hby hzs (by decide) encAb_len encAb_one
      (w := (wr.alloc (.cells (encAb (y, d + 1)).toArray 198)).drew) (HR.out.1.row.later (((Below.refl _ _).alloc (Nat.le_refl _) _).drew)) (y, d + 1) wr.heap.size 1
      (fun j u hu => cell_made wr _ _ j u (by simpa using hu)) (by unfold maxLen; omega) (by omega) (by simp; omega)
     obtain ⟨v9, hv9⟩ : ∃ v9, v9 = Value.slice (some ⟨g9, 0, none⟩) (st'.length + 1) cap9 := ⟨_, rfl⟩
     rw [← hv9] at hr9 hR9
     have hr9 : (Builtin.append_ #[199, 199] 199 #[_, .slice (some ⟨wr.heap.size, 0, none⟩) 1 1]).run Tryz.prog (wr.alloc (.cells #[.int .i64 y.k, .int .i64 y.n, .string ⟨y.s.toArray⟩, .slice y.A y.len y.cap, .int .i64 ((d : Int) + 1)] 198)).drew = .ok v9 w9 := hr9
     have hbx3 := (Array.getElem?_eq_some_iff.1 HR.out.2.1).1
     have hne : u4.ownBlock ≠ some b := fun e => by have := (HR.out.1.row.lt b e).1; omega
     have hI9 : WalkInv w b B (st' ++ [(y, d + 1)]) (pdArgs (d + 1) (t1.args.drop a) ++ pd) (m'.step x1.k x1.n x1.s x1.len d) v9 w9 := by
      refine ⟨hR9, ?_, ?_, ?_⟩
      ·rw [hdrop]
       exact .snoc _ _ y ty (d + 1) HR.out.1.stk ht9
      ·unfold MeasAt
       rw [hg9'.block b (by simp; omega) (fun e => hne e.symm)]
       exact (Below.heap_alloc _ _ _ hbb9).trans HR.out.1.meas
      ·exact ((HR.out.1.fr.alloc _).drew).grown hg9' (fun k e => .inl (.inr (HR.out.1.row.lt k e).1))
     have hbx9 : w9.heap[bx]? = some (.cells (encAb (x1, d)).toArray 198 (0, 0)) := by
      rw [hg9'.block bx (by simp; omega) (fun e => HR.out.2.2 e.symm)]
      exact (Below.heap_alloc _ _ _ hbx3).trans HR.out.2.1
     have hob9 : v9.ownBlock ≠ some bx := by
      rw [hv9]
      intro e
      have e' : g9 = bx := by simpa [Value.ownBlock] using e
      rcases ho9 with h | h
      ·exact HR.out.2.2 (by rw [h, e'])
      ·simp at h
       omega
     have HX9 := Lib.hid (And.intro hI9 (And.intro hbx9 hob9))
     have hd9 : (d : Int) + 1 ≤ 200000000 := by omega
     have hwd : IntKind.i64.wrap ((d : Int) + 1) = (d : Int) + 1 := IntWalk.i64_in _ (by omega)
     have ha9 : (a : Int) < (x1.len : Int) := by omega
     have hl9 : wr.heap.size ≠ bx := by omega
     have hbl9 : bx < wr.heap.size := hbx3
     have hb99 : b9 < wr.heap.size := by omega
     rw [show (((a + 1 : Nat) : Int) - 1) = (a : Int) by omega]
     clear hI9 hbx9 hob9 hne hg9' ho9 hblk hR9 hv9 hc9 hc9' hdrop ht9 hbw hlen
     obtain ⟨xk, xn, xs, xA, xl, xc⟩ := x1
     simp only at hA9 d3 d4 ha9 ha
     subst hA9
     go_wp2_with fail
     go_region_law (first | (refine step_run rfl (.tmp 39) (.tmp 50) 199 rfl (by rfl) (by rfl) hr9 ?_))
     all_goals
      go_wp2_with fail
      go_roundw
      case rel => exact ⟨a, _, by omega, rfl, HX9⟩
      case measure => simp [intOf]
def Meas.none : Meas := ⟨false, 0, 0⟩
theorem meas_all (t : Tm) : Meas.none.all [(t, 1)] = ⟨!t.may, t.size, t.deep⟩ := by
 have := deep_pos t
 have e : max 0 (max (1 + t.deep - 1) 0) = t.deep := by omega
 simp only [Meas.none, Meas.all, pdMay, pdSize, pdDeep, Bool.and_true, Bool.false_or, Nat.zero_add, Nat.add_zero, e]
set_option maxHeartbeats 4000000 in
theorem measured_any (w : World) (x : TV) (t : Tm) (hx : TermAt w w.heap.size x t) (hsz : t.size ≤ 10000000) :
    Calls Tryz.prog 62 #[tvV x] w fun e w' => e = .returned (.agg #[.bool (!t.may), .int .i64 t.size, .int .i64 t.deep]) ∧ Below w.heap.size w w' := by
 have HX := Lib.hid hx
 have hmm := meas_all t
 generalize (!t.may) = q at hmm ⊢
 have HMM := Lib.hid hmm
 clear hx hmm
 rw [tvV_lit]
 go_enter Tryz.func62, Tryz.ntmps62
 go_wp2_with fail
 generalize hW : World.alloc (World.alloc (World.alloc w (.cells #[.int .i64 x.k, .int .i64 x.n, .string ⟨x.s.toArray⟩, .slice x.A x.len x.cap] 28)) (.cells #[.bool false, .int .i64 0, .int .i64 0] 125)) (.cells #[.bool false, .int .i64 0, .int .i64 0] 125) = W
 have hbW : MeasAt W (w.heap.size + 1 + 1) Meas.none := by
  unfold MeasAt
  rw [← hW]
  have := heap_alloc_new ((w.alloc (.cells #[.int .i64 x.k, .int .i64 x.n, .string ⟨x.s.toArray⟩, .slice x.A x.len x.cap] 28)).alloc (.cells #[.bool false, .int .i64 0, .int .i64 0] 125)) (.cells #[.bool false, .int .i64 0, .int .i64 0] 125)
  simpa [Meas.none] using this
 have hrW : W.heap[w.heap.size + 1]? = some (.cells #[.bool false, .int .i64 0, .int .i64 0] 125 (0, 0)) := by
  rw [← hW, Below.heap_alloc _ _ _ (by simp)]
  have := heap_alloc_new (w.alloc (.cells #[.int .i64 x.k, .int .i64 x.n, .string ⟨x.s.toArray⟩, .slice x.A x.len x.cap] 28)) (.cells #[.bool false, .int .i64 0, .int .i64 0] 125)
  simpa using this
 have hfW : Below w.heap.size w W := by rw [← hW]; exact (((Below.refl _ w).alloc (Nat.le_refl _) _).alloc (by simp) _).alloc (by simp; omega) _
 refine (walkM_any W (w.heap.size + 1 + 1) w.heap.size Meas.none x t (HX.out.blw hfW) (by omega) hbW (by simp only [Meas.none]; omega)).mono ?_
 rintro e w2 ⟨rfl, hb2, hf2⟩
 rw [HMM.out] at hb2
 have hB2 := Lib.hid (hfW.trans (hf2.below (B := w.heap.size) hfW.size (fun k hk => by omega)))
 obtain ⟨c0, c1, c2, hf⟩ := meas_cells hb2
 obtain ⟨d0, d1, d2, df⟩ := meas_cells ((hf2.block (w.heap.size + 1) (Array.getElem?_eq_some_iff.1 hrW).1 (by omega)).trans hrW)
 clear hb2 hf2 hfW hbW hW hrW
 go_wp2_with fail
 refine bodyPost_ret (v := .agg #[.bool q, .int .i64 t.size, .int .i64 t.deep]) (by simp [results, Tryz.results62, go_sem, d0, d1, d2]) rfl ⟨rfl, ?_⟩
 repeat (refine Below.setCell ?_ (by simp; try omega) _)
 exact hB2.out
def checkT (t : Tm) : Int := if t.may = false then 2 else if 2000 < t.deep then 4 else if 20000 < t.size then 3 else 0
set_option maxHeartbeats 4000000 in
theorem check_any (w : World) (x : TV) (t : Tm) (hx : TermAt w w.heap.size x t) (hsz : t.size ≤ 10000000) (hdp : t.deep ≤ 10000000) :
    Calls Tryz.prog 31 #[tvV x] w fun e w' => e = .returned (.int .i64 (checkT t)) ∧ Below w.heap.size w w' := by
 have HM : Hid (∀ o, Calls Tryz.prog 62 #[tvV x] (w.alloc o) fun e w' => e = .returned (.agg #[.bool (!t.may), .int .i64 t.size, .int .i64 t.deep]) ∧ Below (w.alloc o).heap.size (w.alloc o) w') :=
  Lib.hid fun o => measured_any _ x t (hx.later ((Below.refl _ _).alloc (Nat.le_refl _) _)) hsz
 clear hx
 rw [tvV_lit] at *
 obtain ⟨r, hr⟩ : ∃ r, r = checkT t := ⟨_, rfl⟩
 rw [← hr]
 have HR := Lib.hid hr
 unfold checkT at HR
 clear hr
 generalize t.may = q at *
 generalize t.size = n at *
 generalize t.deep = d at *
 cases q
 ·go_enter Tryz.func31, Tryz.ntmps31
  go_wp2_with fail
  refine (HM.out _).mono ?_
  rintro e w1 ⟨rfl, hb⟩
  have HB := Lib.hid (((Below.refl w.heap.size w).alloc (Nat.le_refl _) _).trans (hb.mono (by simp)))
  clear hb
  go_wp2_with fail
  go_ret
  exact ⟨by rw [HR.out]; simp, HB.out.alloc HB.out.size _⟩
 ·go_enter Tryz.func31, Tryz.ntmps31
  go_wp2_with fail
  refine (HM.out _).mono ?_
  rintro e w1 ⟨rfl, hb⟩
  have HB := Lib.hid (((Below.refl w.heap.size w).alloc (Nat.le_refl _) _).trans (hb.mono (by simp)))
  clear hb
  go_wp2_with fail
  all_goals
   go_ret
   refine ⟨?_, HB.out.alloc HB.out.size _⟩
   have e9 : r = if 2000 < d then 4 else if 20000 < n then 3 else 0 := by have h := HR.out; simpa using h
   rw [e9]
   show Ending.returned (Value.int .i64 _) = _
   congr 2
   (repeat' split) <;> omega
def bsortI (c : Int) : Int :=
 if (9 ≤ c ∧ c ≤ 13) ∨ c = 32 then 1
 else if 97 ≤ c ∧ c ≤ 122 then 2
 else if (65 ≤ c ∧ c ≤ 90) ∨ c = 95 then 3
 else if 48 ≤ c ∧ c ≤ 57 then 4
 else if c = 43 ∨ c = 45 ∨ c = 42 ∨ c = 47 ∨ c = 92 ∨ c = 94 ∨ c = 60 ∨ c = 62 ∨ c = 61 ∨ c = 126 ∨ c = 58 ∨ c = 46 ∨ c = 63 ∨ c = 64 ∨ c = 35 ∨ c = 38 ∨ c = 36 then 5
 else if c = 33 ∨ c = 59 then 6
 else if c = 40 ∨ c = 41 ∨ c = 91 ∨ c = 93 ∨ c = 123 ∨ c = 125 ∨ c = 44 ∨ c = 124 ∨ c = 37 then 7
 else if c = 39 ∨ c = 34 ∨ c = 96 then 8
 else 0
def bsort (c : UInt8) : Int := bsortI c.toNat
theorem u8_all (p : UInt8 → Bool) (h : (List.range 256).all (fun n => p (UInt8.ofNat n)) = true) (c : UInt8) : p c = true := by
 rw [List.all_eq_true] at h
 have := h c.toNat (List.mem_range.2 c.toNat_lt)
 simpa using this
def isWord (c : UInt8) : Bool := decide (bsort c = 2 ∨ bsort c = 3 ∨ bsort c = 4)
def isSign (c : UInt8) : Bool := decide (bsort c = 5)
def plainB (l : List UInt8) : Bool :=
 if l = [] ∨ l = [46] then false
 else if l = [91, 93] ∨ l = [33] ∨ l = [59] ∨ l = [123, 125] then true
 else if bsort (l.headD 0) = 2 then l.all isWord
 else !(l.take 2 == [47, 42]) && l.all isSign
def hexDigit (n : Nat) : UInt8 := if n < 10 then UInt8.ofNat (48 + n) else UInt8.ofNat (87 + n)
def hexOf (c : UInt8) : List UInt8 := if c.toNat < 16 then [hexDigit c.toNat] else [hexDigit (c.toNat / 16), hexDigit (c.toNat % 16)]
def escB (c : UInt8) : List UInt8 :=
 if c = 39 ∨ c = 92 then [92, c]
 else if c = 10 then [92, 110]
 else if c = 9 then [92, 116]
 else if c < 32 ∨ c = 127 then [92, 120] ++ hexOf c ++ [92]
 else [c]
def quoteB (l : List UInt8) : List UInt8 := [39] ++ l.flatMap escB ++ [39]
def putB (l : List UInt8) : List UInt8 := if plainB l then l else quoteB l
def hexVal (c : UInt8) : Nat :=
 if 48 ≤ c.toNat ∧ c.toNat ≤ 57 then c.toNat - 48 else if 97 ≤ c.toNat ∧ c.toNat ≤ 102 then c.toNat - 87 else if 65 ≤ c.toNat ∧ c.toNat ≤ 70 then c.toNat - 55 else 16
def codedF (base : Nat) : List UInt8 → Nat → Nat → Nat × Nat × Bool
 | [], _, _ => (0, 0, false)
 | c :: r, n, i => if c = 92 then (n, i + 1, decide (0 < i)) else if base ≤ hexVal c then (0, 0, false) else if 255 < n * base + hexVal c then (0, 0, false) else codedF base r (n * base + hexVal c) (i + 1)
def escKnown (c : UInt8) : Option Nat :=
 if c = 110 then some 10 else if c = 114 then some 13 else if c = 116 then some 9 else if c = 97 then some 7 else if c = 98 then some 8 else if c = 102 then some 12 else if c = 118 then some 11
 else if c = 92 then some 92 else if c = 39 then some 39 else if c = 34 then some 34 else if c = 96 then some 96 else none
def isOct (c : UInt8) : Bool := decide (48 ≤ c.toNat ∧ c.toNat ≤ 55)
def escapeF : List UInt8 → Nat × Nat × Bool
 | [] => (0, 0, false)
 | c :: r =>
  match escKnown c with
  | some n => (n, 1, true)
  | none =>
   if c = 120 then ((codedF 16 r 0 0).1, (codedF 16 r 0 0).2.1 + 1, (codedF 16 r 0 0).2.2)
   else if c = 48 ∧ (r = [] ∨ (isOct (r.headD 0) = false ∧ r.headD 0 ≠ 92)) then (0, 1, true)
   else if isOct c then codedF 8 (c :: r) 0 0
   else (0, 0, false)
def getF (q : UInt8) : Nat → List UInt8 → Nat → List UInt8 → Option (List UInt8 × Nat)
 | 0, _, _, _ => none
 | _ + 1, [], _, _ => none
 | f + 1, c :: r, i, b =>
  if c = q then (if r.head? = some q then getF q f r.tail (i + 2) (b ++ [c]) else some (b, i + 1))
  else if c = 10 then none
  else if c ≠ 92 then getF q f r (i + 1) (b ++ [c])
  else if r = [] then none
  else if r.head? = some 10 then getF q f r.tail (i + 2) b
  else if (escapeF r).2.2 then getF q f (r.drop (escapeF r).2.1) (i + 1 + (escapeF r).2.1) (b ++ [UInt8.ofNat (escapeF r).1]) else none
def getQ (q : UInt8) (l : List UInt8) : Option (List UInt8 × Nat) := getF q l.length l 0 []
theorem getF_fuel (q : UInt8) : ∀ (f g : Nat) (l : List UInt8) (i : Nat) (b : List UInt8), l.length ≤ f → l.length ≤ g → getF q f l i b = getF q g l i b := by
 intro f
 induction f with
 | zero =>
  intro g l i b hf hg
  obtain rfl : l = [] := List.eq_nil_of_length_eq_zero (by omega)
  cases g <;> rfl
 | succ f ih =>
  intro g l i b hf hg
  cases l with
  | nil => cases g <;> rfl
  | cons c r =>
   cases g with
   | zero => simp at hg
   | succ g =>
    simp only [List.length_cons] at hf hg
    have ht : r.tail.length ≤ r.length := by rw [List.length_tail]; omega
    have hd : (r.drop (escapeF r).2.1).length ≤ r.length := by rw [List.length_drop]; omega
    simp only [getF]
    rw [ih g r.tail _ _ (by omega) (by omega), ih g r _ _ (by omega) (by omega), ih g r.tail _ _ (by omega) (by omega), ih g (r.drop _) _ _ (by omega) (by omega)]
theorem getQ_step (q : UInt8) (f : Nat) (c : UInt8) (r : List UInt8) (i : Nat) (b : List UInt8) (hf : r.length < f) :
    getF q f (c :: r) i b = if c = q then (if r.head? = some q then getF q f r.tail (i + 2) (b ++ [c]) else some (b, i + 1))
    else if c = 10 then none
    else if c ≠ 92 then getF q f r (i + 1) (b ++ [c])
    else if r = [] then none
    else if r.head? = some 10 then getF q f r.tail (i + 2) b
    else if (escapeF r).2.2 then getF q f (r.drop (escapeF r).2.1) (i + 1 + (escapeF r).2.1) (b ++ [UInt8.ofNat (escapeF r).1]) else none := by
 have ht : r.tail.length ≤ r.length := by rw [List.length_tail]; omega
 have hd : (r.drop (escapeF r).2.1).length ≤ r.length := by rw [List.length_drop]; omega
 cases f with
 | zero => omega
 | succ f =>
  simp only [getF]
  rw [getF_fuel q f (f + 1) r.tail _ _ (by omega) (by omega), getF_fuel q f (f + 1) r _ _ (by omega) (by omega), getF_fuel q f (f + 1) r.tail _ _ (by omega) (by omega), getF_fuel q f (f + 1) (r.drop _) _ _ (by omega) (by omega)]
def digVal (c : UInt8) : Nat :=
 if 48 ≤ c.toNat ∧ c.toNat ≤ 57 then c.toNat - 48 else if 97 ≤ c.toNat ∧ c.toNat ≤ 122 then c.toNat - 87 else if 65 ≤ c.toNat ∧ c.toNat ≤ 90 then c.toNat - 55 else 36
def valOf (base : Nat) (l : List UInt8) : Nat := l.foldl (fun v c => v * base + digVal c) 0
def digitsIn (base : Nat) (l : List UInt8) : Bool := l.all fun c => decide (digVal c < base)
def tops (v : Nat) : Int := if v = 9223372036854775808 then -9223372036854775808 else (v : Int)
def parseF (base : Nat) (l : List UInt8) : Int × Int :=
 if l = [] ∨ digitsIn base l = false then (0, 6)
 else if 9223372036854775808 < valOf base l then (0, 11)
 else (tops (valOf base l), 0)
theorem valOf_snoc (base : Nat) (l : List UInt8) (c : UInt8) : valOf base (l ++ [c]) = valOf base l * base + digVal c := by
 unfold valOf
 rw [List.foldl_append]
 rfl
theorem valOf_mono (base : Nat) (h : 1 ≤ base) (l r : List UInt8) : valOf base l ≤ valOf base (l ++ r) := by
 induction r generalizing l with
 | nil => simp
 | cons c r ih =>
  have := ih (l ++ [c])
  rw [List.append_assoc, List.singleton_append] at this
  refine Nat.le_trans ?_ this
  rw [valOf_snoc]
  have : valOf base l * 1 ≤ valOf base l * base := Nat.mul_le_mul_left _ h
  omega
theorem digVal_le (c : UInt8) : digVal c ≤ 36 := by
 unfold digVal
 have := c.toNat_lt
 split
 ·omega
 ·split
  ·omega
  ·split <;> omega
theorem beyond_iff (v d base : Nat) (hb : 1 ≤ base) (hd : d ≤ 36) : (9223372036854775808 - d) / base < v ↔ 9223372036854775808 < v * base + d := by
 rw [Nat.div_lt_iff_lt_mul (by omega)]
 omega
end Go.Proofs.YtcallkljcjimiaaGreatDoor
